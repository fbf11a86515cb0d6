/- One plain sentence: contracts and plain laws that the claim rests on. Conditions: those that each states. -/
import Derived.Test.YtjblfcfdeaagpaaGreatDoorXS1
import Derived.Shelf.Strings.BuilderK
import Derived.Shelf.Strings.Cut
import Derived.Shelf.Strings.Prefix
import Derived.Shelf.Strings.Search3
import Derived.Shelf.Strings.IndexAnyAll
import Derived.Shelf.Small.Strs
import Derived.Shelf.Strings.OnBuilder
import Derived.Shelf.Strings.Repeat
import Derived.Shelf.Strings.SlTrimAscii
import Derived.Shelf.Strings.IndexAny
import Derived.Shelf.Small.Utf8
import Derived.Shelf.Strings.BuilderX
import Derived.Shelf.Lays
import Derived.Ground.SlgmProg
import Derived.Test.YtjblfcfdeaagpaaGreatDoorProg
import Derived.Lib.ConvBytes
import Derived.Lib.ParseIntBCases
import Derived.Lib.Builder
import Derived.ProofKit
import Derived.WalkKit
import Derived.Lib.AppendStr
import Derived.Lib.RuneBytes
set_option linter.all false
set_option linter.unusedSimpArgs false
set_option linter.unusedVariables false
set_option linter.unusedSectionVars false
set_option maxRecDepth 100000
namespace Go.Proofs.YtjblfcfdeaagpaaGreatDoor
section
open Go Go.Eng
variable{w:World}{K:Value->World->Prop}{cs:List Value}{G:Nat->Prop}{T:TypeId}{i:Nat}{n:Nat}{v:Value}{w':World}{P:Program}{c:UInt8}{S:Nat->Prop}{v0 v1 v2 v3 v4 v5:Value}
abbrev _root_.Q0:=Value->World->Prop
noncomputable abbrev _root_.P0:=Tryz.prog
abbrev _root_.sN:Value:=.slice none 0 0
abbrev _root_.zL0:List Value:=[(i64 0),(str []),(i64 0)]
abbrev _root_.zL1:List Value:=[(i64 0),(str []),sN,sN,(i64 0)]
abbrev _root_.zL2:List Value:=[(str []),sN,sN,sN,(i64 0)]
abbrev _root_.zL3:List Value:=[(.pointer none),sN]
variable [HX]
def Sw:dP:={js:=[(60,⟨[9],[9],12⟩),(62004,⟨[73],[],71⟩),(54,⟨[9,11],[9],11⟩),(44005,⟨[51],[],48⟩),(36,⟨[6,7],[],1⟩),(25006,⟨[30],[],26⟩),(14,⟨[],[2,3,4,5],19⟩)],ds:=[]}
def W28(v0:Value)(w:World)(K:Q0):=iK v0 λt13=>aO .gtr t13 (i64 16384) λt14=>aS t14 (gJ [(i64 0),(str []),(i64 0)] [(0,1,(i64 3))] λc1=>mR 48 (.agg c1.toArray) w λt16 w2=>K (.tuple #[sN,t16]) w2) (fG P0 (Instr.range 9 v0) w λt18 w3=>dD [] w3 λs4 _ w5 L4=>fG P0 (Instr.next t18 true 0) w5 λt19 w6=>iX 0 t19 λt20=>aS t20 (iX 1 t19 λt21=>iX 2 t19 λt22=>aO .eql t22 (.int .i32 65533) λt24=>GdW (isB t24 true) [undef] w6 (λJ7=>mN v0 (some t21) none λt28=>aI P0 59 [t28,(str [239,191,189])] w6 λt29 w8=>unW .not t29 λt30=>J7 [t30] w8) λs7 _ w9=>eG t24 (s7.getD 0 undef) (.bool false) λt31=>aS t31 (gJ [(i64 0),(str []),(i64 0)] [(0,1,(i64 31)),(2,1,t21)] λc10=>mR 48 (.agg c10.toArray) w9 λt34 w11=>K (.tuple #[sN,t34]) w11) (L4 [] w9)) (dD [sN,(i64 0)] w6 λs12 _ w13 L12=>mN v0 (some (s12.getD 1 undef)) none λt38=>aI P0 60 [t38] w13 λt39 w14=>iX 0 t39 λt40=>iX 1 t39 λt41=>aO .add (s12.getD 1 undef) t40 λt44=>aO .eql t41 (i64 0) λt46=>GdW (isB t46 true) [undef] w14 (λJ15=>iK v0 λt50=>aO .eql t44 t50 λt51=>J15 [t51] w14) λs15 _ w16=>eG t46 (s15.getD 0 undef) (.bool false) λt52=>aS t52 (gJ [(i64 0),(str []),(i64 0)] [(2,1,t44)] λc17=>fH 95 1 [(i64 0),(str []),(i64 0)] [(0,3,(.agg c17.toArray))] w16 λt56 w18=>fG P0 (Builtin.append_ #[86,86] 86 #[(s12.getD 0 undef),t56]) w18 λt57 w19=>K (.tuple #[t57,(.pointer none)]) w19) (cN 95 zL0 w16 λt10 w20=>cK (λJ21=>aO .eql t41 (i64 0) λt59=>aS t59 (mN v0 (some t44) none λt63=>aI P0 61 [t63] w20 λt64 w22=>iX 0 t64 λt65=>iX 1 t64 λt66=>iX 2 t64 λt67=>stW 3 t10 t65 w22 λw23=>J21 [t67,t66] w23) (J21 [t41,(i64 0)] w20)) λs21 _ w24=>cK (λJ25=>aO .eql (s21.getD 0 undef) (i64 0) λt69=>GdW (isB t69 true) [undef] w24 (λJ26=>iB (s12.getD 0 undef) λt72=>aO .eql t72 (i64 4096) λt73=>J26 [t73] w24) λs26 _ w27=>eG t69 (s26.getD 0 undef) (.bool false) λt74=>aS t74 (J25 [(i64 3)] w27) (J25 [(s21.getD 0 undef)] w27)) λs25 _ w28=>aO .neq (s25.getD 0 undef) (i64 0) λt76=>aS t76 (gJ [(i64 0),(str []),(i64 0)] [(0,1,(s25.getD 0 undef)),(2,1,t44)] λc29=>mR 48 (.agg c29.toArray) w28 λt80 w30=>K (.tuple #[sN,t80]) w30) (bA 2 t10 λt82=>stW 1 t82 t44 w28 λw31=>ldW true 3 t10 w31 λt84=>fH 95 1 [(i64 0),(str []),(i64 0)] [(0,3,t84)] w31 λt85 w32=>fG P0 (Builtin.append_ #[86,86] 86 #[(s12.getD 0 undef),t85]) w32 λt86 w33=>aO .add t44 (s21.getD 1 undef) λt89=>L12 [t86,t89] w33))))
theorem TW{K:Q0}(h:W28 v0 w K):aI P0 28 [v0] w K:=
 tie _ 28 Tryz.f28 Sw _ w K 1 _ rfl mixed Tryz.func28 (by kernel_rfl) (by kernel_rfl) Tryz.call28 h
def Sl:dP:={js:=[(21,⟨[23],[],6⟩),(6,⟨[4],[],1⟩)],ds:=[]}
def W60(v0:Value)(w:World)(K:Q0):=dD [(i64 0)] w λs1 _ w2 L1=>iK v0 λt9=>aO .lss (s1.getD 0 undef) t9 λt10=>aS t10 (mN v0 (some (s1.getD 0 undef)) none λt13=>pH v0 (s1.getD 0 undef) λt18=>aI P0 104 [(str [32,9,13]),t18] w2 λt19 w3=>aO .geq t19 (i64 0) λt20=>aS t20 (aO .add (s1.getD 0 undef) (i64 1) λt22=>L1 [t22] w3) (cK (λJ4=>pH v0 (s1.getD 0 undef) λt26=>aO .eql t26 (.int .u8 35) λt27=>aS t27 (J4 [t27] w3) (aI P0 59 [t13,(str [47,47])] w3 λt29 w5=>J4 [t29] w5)) λs4 _ w6=>aS (s4.getD 0 undef) (aI P0 105 [t13,(.func (.func 106) #[] #[])] w6 λt32 w7=>aO .add (s1.getD 0 undef) t32 λt33=>L1 [t33] w7) (aI P0 59 [t13,(str [47,42])] w6 λt36 w8=>aS t36 (mN t13 (some (i64 2)) none λt38=>aI P0 107 [t38,(str [42,47])] w8 λt39 w9=>aO .lss t39 (i64 0) λt41=>aS t41 (K (.tuple #[(s1.getD 0 undef),(i64 40)]) w9) (aO .add t39 (i64 4) λt45=>aO .add (s1.getD 0 undef) t45 λt46=>L1 [t46] w9)) (K (.tuple #[(s1.getD 0 undef),(i64 0)]) w8)))) (K (.tuple #[(s1.getD 0 undef),(i64 0)]) w2)
theorem TJ{K:Q0}(h:W60 v0 w K):aI P0 60 [v0] w K:=
 tie _ 60 Tryz.f60 Sl _ w K 1 _ rfl mixed Tryz.func60 (by kernel_rfl) (by kernel_rfl) Tryz.call60 h
def Sk:dP:={js:=[(8,⟨[6,7],[3,4],6⟩),(38,⟨[43],[],8⟩),(43004,⟨[58],[],57⟩),(40006,⟨[52],[],49⟩)],ds:=[]}
def W61(v0:Value)(w:World)(K:Q0):=cN 95 zL0 w λt2 w1=>cN 95 zL0 w1 λt5 w2=>cK (λJ3=>pH v0 (i64 0) λt10=>aO .eql t10 (.int .u8 10) λt21=>aS t21 (gJ [(i64 0),(str []),(i64 0)] [(0,1,(i64 5)),(1,1,(str [10]))] λc4=>stW 3 t2 (.agg c4.toArray) w2 λw5=>ldW true 3 t2 w5 λr6=>K (.tuple #[r6,(i64 1),(i64 0)]) w5) (aI P0 108 [t10] w2 λt25 w7=>aS t25 (aI P0 105 [v0,(.func (.func 109) #[] #[])] w7 λt27 w8=>mN v0 none (some t27) λt30=>gJ [(i64 0),(str []),(i64 0)] [(0,1,(i64 1)),(1,1,t30)] λc9=>stW 3 t5 (.agg c9.toArray) w8 λw10=>aO .gtr t27 (i64 32) λt33=>aS t33 (J3 [(i64 3),t27] w10) (J3 [(i64 0),t27] w10)) (aI P0 110 [t10] w7 λt36 w11=>aS t36 (aI P0 105 [v0,(.func (.func 110) #[] #[])] w11 λt38 w12=>mN v0 none (some t38) λt41=>gJ [(i64 0),(str []),(i64 0)] [(0,1,(i64 2)),(1,1,t41)] λc13=>stW 3 t5 (.agg c13.toArray) w12 λw14=>cK (λJ15=>iK v0 λt46=>aO .lss t38 t46 λt47=>GdW (isB t47 true) [undef] w14 (λJ16=>pH v0 t38 λt51=>aI P0 108 [t51] w14 λt52 w17=>J16 [t52] w17) λs16 _ w18=>eG t47 (s16.getD 0 undef) (.bool false) λt53=>aS t53 (J15 [t53] w18) (aO .eql t10 (.int .u8 48) λt55=>GdW (isB t55 true) [undef] w18 (λJ19=>aO .gtr t38 (i64 1) λt58=>J19 [t58] w18) λs19 _ w20=>eG t55 (s19.getD 0 undef) (.bool false) λt59=>J15 [t59] w20)) λs15 _ w21=>aS (s15.getD 0 undef) (J3 [(i64 40),t38] w21) (bA 1 t5 λt61=>ldW false 1 t61 w21 λt62=>aI P0 111 [t62] w21 λt63 w22=>unW .not t63 λt64=>aS t64 (J3 [(i64 3),t38] w22) (J3 [(i64 0),t38] w22))) (aO .eql t10 (.int .u8 34) λt67=>aS t67 (aI P0 112 [v0,(i64 0)] w11 λt70 w23=>iX 0 t70 λt71=>iX 1 t70 λt72=>aO .eql t72 (i64 0) λt74=>aS t74 (aO .sub t71 (i64 1) λt77=>mN v0 (some (i64 1)) (some t77) λt78=>gJ [(i64 0),(str []),(i64 0)] [(0,1,(i64 3)),(1,1,t78)] λc24=>stW 3 t5 (.agg c24.toArray) w23 λw25=>J3 [t72,t71] w25) (J3 [t72,t71] w23)) (aI P0 59 [v0,(str [60,60])] w11 λt82 w26=>aS t82 (bA 0 t5 λt83=>stW 1 t83 (i64 3) w26 λw27=>aI P0 113 [v0] w27 λt86 w28=>iX 0 t86 λt87=>iX 1 t86 λt88=>iX 2 t86 λt89=>bA 1 t5 λt90=>stW 1 t90 t87 w28 λw29=>J3 [t89,t88] w29) (aI P0 114 [v0] w26 λt12 w30=>gJ [(i64 0),(str []),(i64 0)] [(0,1,(i64 4)),(1,1,t12)] λc31=>stW 3 t5 (.agg c31.toArray) w30 λw32=>bA 1 t5 λt14=>ldW false 1 t14 w32 λt15=>iK t15 λt16=>aO .eql t16 (i64 0) λt18=>aS t18 (J3 [(i64 40),t16] w32) (J3 [(i64 0),t16] w32))))))) λs3 _ w33=>ldW true 3 t5 w33 λt91=>stW 3 t2 t91 w33 λw34=>ldW true 3 t2 w34 λr35=>K (.tuple #[r35,(s3.getD 1 undef),(s3.getD 0 undef)]) w34
theorem TI{K:Q0}(h:W61 v0 w K):aI P0 61 [v0] w K:=
 tie _ 61 Tryz.f61 Sk _ w K 1 _ rfl mixed Tryz.func61 (by kernel_rfl) (by kernel_rfl) Tryz.call61 h
def Om:dP:={js:=[(6,⟨[8],[4,5],8⟩)],ds:=[]}
def VO(v0 v1:Value)(w:World)(K:Q0):=iK v0 λt7=>dD [(i64 0)] w λs1 _ w2 L1=>aO .lss (s1.getD 0 undef) t7 λt9=>aS t9 (pH v0 (s1.getD 0 undef) λt14=>AE P0 v1 [t14] w2 λt15 w3=>unW .not t15 λt16=>aS t16 (K (s1.getD 0 undef) w3) (aO .add (s1.getD 0 undef) (i64 1) λt18=>L1 [t18] w3)) (iK v0 λt20=>K t20 w2)
theorem Qy{K:Q0}(h:VO v0 v1 w K):aI P0 105 [v0,v1] w K:=
 tie _ 105 Tryz.f105 Om _ w K 2 _ rfl mixed Tryz.func105 (by kernel_rfl) (by kernel_rfl) Tryz.call105 h
def Ol:dP:={js:=[],ds:=[]}
def VN(v0:Value)(w:World)(K:Q0):=aO .neq v0 (.int .u8 10) λt4=>K t4 w
theorem Qx{K:Q0}(h:VN v0 w K):aI P0 106 [v0] w K:=
 tie _ 106 Tryz.f106 Ol _ w K 1 _ rfl mixed Tryz.func106 (by kernel_rfl) (by kernel_rfl) Tryz.call106 h
def Oj:dP:={js:=[(3004,⟨[19],[],18⟩),(3007,⟨[15],[],10⟩),(3009,⟨[14],[],13⟩),(3012,⟨[12],[],10⟩),(3016,⟨[7],[],6⟩)],ds:=[]}
def VM(v0:Value)(w:World)(K:Q0):=aO .geq v0 (.int .u8 97) λt4=>GdW (isB t4 true) [undef] w (λJ1=>aO .leq v0 (.int .u8 122) λt7=>J1 [t7] w) λs1 _ w2=>eG t4 (s1.getD 0 undef) (.bool false) λt8=>GdW (isB t8 false) [undef] w2 (λJ3=>aO .geq v0 (.int .u8 65) λt11=>J3 [t11] w2) λs3 _ w4=>GdW (isB (s3.getD 0 undef) true) [undef] w4 (λJ5=>aO .leq v0 (.int .u8 90) λt14=>J5 [t14] w4) λs5 _ w6=>GdW (isB t8 false) [undef] w6 (λJ7=>eG (s3.getD 0 undef) (s5.getD 0 undef) (.bool false) λt15=>J7 [t15] w6) λs7 _ w8=>eG t8 (.bool true) (s7.getD 0 undef) λt16=>GdW (isB t16 false) [undef] w8 (λJ9=>aO .eql v0 (.int .u8 95) λt19=>J9 [t19] w8) λs9 _ w10=>eG t16 (.bool true) (s9.getD 0 undef) λt20=>K t20 w10
theorem Qw{K:Q0}(h:VM v0 w K):aI P0 108 [v0] w K:=
 tie _ 108 Tryz.f108 Oj _ w K 1 _ rfl mixed Tryz.func108 (by kernel_rfl) (by kernel_rfl) Tryz.call108 h
def Oi:dP:={js:=[(3004,⟨[11],[],10⟩),(3008,⟨[7],[],6⟩)],ds:=[]}
def VL(v0:Value)(w:World)(K:Q0):=aI P0 108 [v0] w λt4 w1=>GdW (isB t4 false) [undef] w1 (λJ2=>aI P0 110 [v0] w1 λt7 w3=>J2 [t7] w3) λs2 _ w4=>eG t4 (.bool true) (s2.getD 0 undef) λt8=>GdW (isB t8 false) [undef] w4 (λJ5=>aO .eql v0 (.int .u8 45) λt11=>J5 [t11] w4) λs5 _ w6=>eG t8 (.bool true) (s5.getD 0 undef) λt12=>K t12 w6
theorem Qv{K:Q0}(h:VL v0 w K):aI P0 109 [v0] w K:=
 tie _ 109 Tryz.f109 Oi _ w K 1 _ rfl mixed Tryz.func109 (by kernel_rfl) (by kernel_rfl) Tryz.call109 h
def Oh:dP:={js:=[(3004,⟨[7],[],6⟩)],ds:=[]}
def VK(v0:Value)(w:World)(K:Q0):=aO .geq v0 (.int .u8 48) λt4=>GdW (isB t4 true) [undef] w (λJ1=>aO .leq v0 (.int .u8 57) λt7=>J1 [t7] w) λs1 _ w2=>eG t4 (s1.getD 0 undef) (.bool false) λt8=>K t8 w2
theorem Qs{K:Q0}(h:VK v0 w K):aI P0 110 [v0] w K:=
 tie _ 110 Tryz.f110 Oh _ w K 1 _ rfl mixed Tryz.func110 (by kernel_rfl) (by kernel_rfl) Tryz.call110 h
def Oe:dP:={js:=[(32007,⟨[43],[],38⟩),(6,⟨[6],[],2⟩)],ds:=[]}
def VI(v0 v1:Value)(w:World)(K:Q0):=dD [(i64 1)] w λs1 _ w2 L1=>iK v0 λt11=>aO .lss (s1.getD 0 undef) t11 λt12=>aS t12 (pH v0 (s1.getD 0 undef) λt18=>aO .eql t18 (.int .u8 34) λt19=>aS t19 (aO .add (s1.getD 0 undef) (i64 1) λt21=>K (.tuple #[t21,(i64 0)]) w2) (pH v0 (s1.getD 0 undef) λt25=>aO .eql t25 (.int .u8 10) λt26=>aS t26 (K (.tuple #[(i64 0),(i64 40)]) w2) (pH v0 (s1.getD 0 undef) λt30=>aO .eql t30 (.int .u8 92) λt31=>aS t31 (aO .add (s1.getD 0 undef) (i64 1) λt33=>iK v0 λt35=>aO .geq t33 t35 λt36=>GdW (isB t36 false) [undef] w2 (λJ3=>aO .add (s1.getD 0 undef) (i64 1) λt40=>pH v0 t40 λt41=>aI P0 104 [(str [34,92,110,116,114,36]),t41] w2 λt42 w4=>aO .lss t42 (i64 0) λt43=>J3 [t43] w4) λs3 _ w5=>eG t36 (.bool true) (s3.getD 0 undef) λt44=>aS t44 (K (.tuple #[(i64 0),(i64 40)]) w5) (aO .add (s1.getD 0 undef) (i64 2) λt46=>L1 [t46] w5)) (mN v0 (some (s1.getD 0 undef)) none λt50=>aI P0 59 [t50,(str [36,123])] w2 λt51 w6=>aS t51 (aO .add (s1.getD 0 undef) (i64 1) λt55=>mN v0 (some t55) none λt56=>aO .add v1 (i64 1) λt58=>aI P0 149 [t56,t58] w6 λt59 w7=>iX 0 t59 λt60=>iX 1 t59 λt61=>aO .neq t61 (i64 0) λt63=>aS t63 (K (.tuple #[(i64 0),t61]) w7) (aO .add t60 (i64 1) λt67=>aO .add (s1.getD 0 undef) t67 λt68=>L1 [t68] w7)) (aO .add (s1.getD 0 undef) (i64 1) λt14=>L1 [t14] w6))))) (K (.tuple #[(i64 0),(i64 40)]) w2)
theorem Qq{K:Q0}(h:VI v0 v1 w K):aI P0 112 [v0,v1] w K:=
 tie _ 112 Tryz.f112 Oe _ w K 2 _ rfl mixed Tryz.func112 (by kernel_rfl) (by kernel_rfl) Tryz.call112 h
def Od:dP:={js:=[(61,⟨[13],[13],68⟩),(65,⟨[72],[],72⟩),(51,⟨[],[13],68⟩),(27,⟨[7],[2,3,4,7],9⟩),(16005,⟨[43],[],40⟩),(16011,⟨[37],[],34⟩),(4,⟨[5],[],1⟩),(6004,⟨[20],[],18⟩)],ds:=[]}
def VH(v0:Value)(w:World)(K:Q0):=cK (λJ1=>iK v0 λt15=>aO .gtr t15 (i64 2) λt16=>GdW (isB t16 true) [undef] w (λJ2=>pH v0 (i64 2) λt19=>aI P0 108 [t19] w λt20 w3=>J2 [t20] w3) λs2 _ w4=>eG t16 (s2.getD 0 undef) (.bool false) λt21=>aS t21 (mN v0 (some (i64 2)) none λt23=>aI P0 105 [t23,(.func (.func 150) #[] #[])] w4 λt24 w5=>J1 [t24] w5) (J1 [(i64 0)] w4)) λs1 _ w6=>aO .add (i64 2) (s1.getD 0 undef) λt27=>mN v0 (some (i64 2)) (some t27) λt28=>aO .add (i64 2) (s1.getD 0 undef) λt30=>aO .eql (s1.getD 0 undef) (i64 0) λt32=>GdW (isB t32 false) [undef] w6 (λJ7=>iK v0 λt36=>aO .geq t30 t36 λt37=>J7 [t37] w6) λs7 _ w8=>eG t32 (.bool true) (s7.getD 0 undef) λt38=>GdW (isB t38 false) [undef] w8 (λJ9=>pH v0 t30 λt42=>aO .neq t42 (.int .u8 10) λt43=>J9 [t43] w8) λs9 _ w10=>eG t38 (.bool true) (s9.getD 0 undef) λt44=>aS t44 (K (.tuple #[(str []),(i64 0),(i64 40)]) w10) (aO .add t30 (i64 1) λt46=>cN 114 zL3 w10 λt8 w11=>dD [t46] w11 λs12 _ w13 L12=>mN v0 (some (s12.getD 0 undef)) none λt50=>aI P0 151 [t50,(str [10])] w13 λt51 w14=>iX 0 t51 λt52=>iX 1 t51 λt53=>iX 2 t51 λt54=>aI P0 152 [t52,(str [32,9])] w14 λt56 w15=>aO .eql t56 t28 λt58=>aS t58 (aI P0 44 [t8] w15 λt59 w16=>iK t52 λt62=>aO .add (s12.getD 0 undef) t62 λt63=>K (.tuple #[t59,t63,(i64 0)]) w16) (unW .not t54 λt65=>aS t65 (K (.tuple #[(str []),(i64 0),(i64 40)]) w15) (fG P0 (Instr.range 9 t52) w15 λt67 w17=>dD [] w17 λs18 _ w19 L18=>fG P0 (Instr.next t67 true 0) w19 λt68 w20=>iX 0 t68 λt69=>aS t69 (iX 2 t68 λt70=>cK (λJ21=>cK (λJ22=>aO .eql t70 (.int .i32 92) λt73=>aS t73 (J22 [t73] w20) (aO .eql t70 (.int .i32 34) λt74=>aS t74 (J22 [t74] w20) (aO .eql t70 (.int .i32 36) λt75=>J22 [t75] w20))) λs22 _ w23=>aS (s22.getD 0 undef) (aI P0 126 [t8,(.int .u8 92)] w23 λt76 w24=>J21 [t70] w24) (aO .eql t70 (.int .i32 9) λt78=>aS t78 (aI P0 126 [t8,(.int .u8 92)] w23 λt79 w25=>J21 [(.int .i32 116)] w25) (aO .eql t70 (.int .i32 13) λt81=>aS t81 (aI P0 126 [t8,(.int .u8 92)] w23 λt82 w26=>J21 [(.int .i32 114)] w26) (J21 [t70] w23)))) λs21 _ w27=>aI P0 127 [t8,(s21.getD 0 undef)] w27 λt84 w28=>L18 [] w28) (aI P0 88 [t8,(str [92,110])] w20 λt85 w29=>iK t52 λt88=>aO .add t88 (i64 1) λt89=>aO .add (s12.getD 0 undef) t89 λt90=>L12 [t90] w29))))
theorem Qp{K:Q0}(h:VH v0 w K):aI P0 113 [v0] w K:=
 tie _ 113 Tryz.f113 Od _ w K 1 _ rfl mixed Tryz.func113 (by kernel_rfl) (by kernel_rfl) Tryz.call113 h
def Oc:dP:={js:=[(2,⟨[],[],1⟩),(9,⟨[8],[],1⟩)],ds:=[]}
def VG(v0:Value)(w:World)(K:Q0):=cK (λJ1=>iK v0 λt4=>aO .gtr t4 (i64 1) λt5=>aS t5 (mN v0 none (some (i64 2)) λt7=>cK (λJ2=>aO .eql t7 (str [61,61]) λt9=>aS t9 (J2 [t9] w) (aO .eql t7 (str [33,61]) λt10=>aS t10 (J2 [t10] w) (aO .eql t7 (str [60,61]) λt11=>aS t11 (J2 [t11] w) (aO .eql t7 (str [62,61]) λt12=>aS t12 (J2 [t12] w) (aO .eql t7 (str [38,38]) λt13=>aS t13 (J2 [t13] w) (aO .eql t7 (str [124,124]) λt14=>J2 [t14] w)))))) λs2 _ w3=>aS (s2.getD 0 undef) (mN v0 none (some (i64 2)) λt16=>K t16 w3) (J1 [] w3)) (J1 [] w)) λs1 _ w4=>pH v0 (i64 0) λt18=>aI P0 104 [(str [123,125,91,93,40,41,61,43,45,42,47,37,60,62,33,63,58,44,46]),t18] w4 λt19 w5=>aO .geq t19 (i64 0) λt20=>aS t20 (mN v0 none (some (i64 1)) λt22=>K t22 w5) (K (str []) w5)
theorem Qo{K:Q0}(h:VG v0 w K):aI P0 114 [v0] w K:=
 tie _ 114 Tryz.f114 Oc _ w K 1 _ rfl mixed Tryz.func114 (by kernel_rfl) (by kernel_rfl) Tryz.call114 h
def NU:dP:={js:=[(24,⟨[7,8],[4,5],7⟩),(14,⟨[6],[],2⟩)],ds:=[]}
def Vy(v0 v1:Value)(w:World)(K:Q0):=aO .gtr v1 (i64 24) λt10=>aS t10 (K (.tuple #[(i64 0),(i64 7)]) w) (dD [(i64 1)] w λs1 _ w2 L1=>iK v0 λt13=>aO .lss (s1.getD 0 undef) t13 λt14=>aS t14 (cK (λJ3=>pH v0 (s1.getD 0 undef) λt17=>aO .eql t17 (.int .u8 125) λt19=>aS t19 (aO .add (s1.getD 0 undef) (i64 1) λt21=>K (.tuple #[t21,(i64 0)]) w2) (aO .eql t17 (.int .u8 10) λt23=>aS t23 (K (.tuple #[(i64 0),(i64 40)]) w2) (aO .eql t17 (.int .u8 123) λt25=>aS t25 (mN v0 (some (s1.getD 0 undef)) none λt29=>aO .add v1 (i64 1) λt31=>aI P0 149 [t29,t31] w2 λt32 w4=>iX 0 t32 λt33=>iX 1 t32 λt34=>J3 [t33,t34] w4) (aO .eql t17 (.int .u8 34) λt36=>aS t36 (mN v0 (some (s1.getD 0 undef)) none λt40=>aI P0 112 [t40,v1] w2 λt42 w5=>iX 0 t42 λt43=>iX 1 t42 λt44=>J3 [t43,t44] w5) (J3 [(i64 1),(i64 0)] w2))))) λs3 _ w6=>aO .neq (s3.getD 1 undef) (i64 0) λt46=>aS t46 (K (.tuple #[(i64 0),(s3.getD 1 undef)]) w6) (aO .add (s1.getD 0 undef) (s3.getD 0 undef) λt50=>L1 [t50] w6)) (K (.tuple #[(i64 0),(i64 40)]) w2))
theorem Qf{K:Q0}(h:Vy v0 v1 w K):aI P0 149 [v0,v1] w K:=
 tie _ 149 Tryz.f149 NU _ w K 2 _ rfl mixed Tryz.func149 (by kernel_rfl) (by kernel_rfl) Tryz.call149 h
def NT:dP:={js:=[(3004,⟨[11],[],10⟩),(3008,⟨[7],[],6⟩)],ds:=[]}
def Vx(v0:Value)(w:World)(K:Q0):=aI P0 108 [v0] w λt4 w1=>GdW (isB t4 false) [undef] w1 (λJ2=>aI P0 110 [v0] w1 λt7 w3=>J2 [t7] w3) λs2 _ w4=>eG t4 (.bool true) (s2.getD 0 undef) λt8=>GdW (isB t8 false) [undef] w4 (λJ5=>aO .eql v0 (.int .u8 45) λt11=>J5 [t11] w4) λs5 _ w6=>eG t8 (.bool true) (s5.getD 0 undef) λt12=>K t12 w6
theorem Qe{K:Q0}(h:Vx v0 w K):aI P0 150 [v0] w K:=
 tie _ 150 Tryz.f150 NT _ w K 1 _ rfl mixed Tryz.func150 (by kernel_rfl) (by kernel_rfl) Tryz.call150 h
end
section
open Go Go.Eng
variable{w:World}{K:Q0}{cs:List Value}{G:Nat->Prop}{T:TypeId}{i:Nat}{n:Nat}{v:Value}{w':World}{P:Program}{c:UInt8}{S:Nat->Prop}{v0 v1 v2 v3 v4 v5:Value}
variable [HX]
def Hf:dP:={js:=[(30,⟨[],[],6⟩),(34003,⟨[40],[],39⟩),(20,⟨[],[],6⟩)],ds:=[(29,⟨[0,1,2,6],[[],[0],[],[2],[2,3],[0,1,2,3,4],[0,1,2,3,4,5],[0,1,2,3,4,5,6]]⟩),(9,⟨[0,1],[[],[],[0],[0,1,2]]⟩)]}
def W12(v0:Value)(w:World)(K:Q0):=
 cN 28 [sN,sN,sN] w λt2 w1=>
 cN 29 [(.pointer none)] w1 λt3 w2=>
 aI P0 28 [v0] w2 λt9 w3=>
 iX 0 t9 λt10=>
 iX 1 t9 λt11=>
 stW 1 t3 t11 w3 λw4=>
 ldW false 1 t3 w4 λt12=>
 eqW .ptr true t12 (.pointer none) λt13=>
 aS t13 (
 gJ [sN,sN,sN] [] λc5=>
 ldW false 1 t3 w4.drew λt15=>
 stW 3 t2 (.agg c5.toArray) w4.drew λw6=>
 (ldW false 1 t3 w6 λx=>x=t15)/\
 stW 1 t3 t15 w6 λw7=>
 ldW true 3 t2 w7 λr8=>
 ldW false 1 t3 w7 λr9=>
 K (.tuple #[r8,r9]) w7) (
 letI:HX:=⟨λch x10=>AN P0 29 [t2,t3] (.panicking ch) x10 λw10=>
 ldW true 3 t2 w10 λr11=>
 ldW false 1 t3 w10 λr12=>
 K (.tuple #[r11,r12]) w10⟩
 gJ [sN,(i64 0),(i64 0),(.pointer none),(i64 0),(.bool false)] [(0,1,t10),(3,1,t2)] λc13=>
 mR 92 (.agg c13.toArray) w4 λt19 w14=>
 aI P0 30 [t19] w14 λt21 w15=>
 dD [] w15 λs16 _ w17 L16=>
 aI P0 31 [t19] w17 λt23 w18=>
 lF false 0 1 t23 λt24=>
 aO .neq t24 (i64 0) λt25=>
 aS t25 (
 bA 2 t2 λt26=>
 ldW false 1 t26 w18.drew λt27=>
 aI P0 32 [t19] w18.drew λt29 w19=>
 (ldW false 1 t26 w19 λx=>x=t27)/\
 fH 3 1 [(i64 0)] [(0,1,t29)] w19 λt30 w20=>
 (ldW false 1 t26 w20 λx=>x=t27)/\
 fG P0 (Builtin.append_ #[26,26] 26 #[t27,t30]) w20 λt31 w21=>
 bA 2 t2 λt32=>
 stW 1 t32 t31 w21 λw22=>
 cK (λJ23=>
 aI P0 31 [t19] w22 λt34 w24=>
 lF false 0 1 t34 λt35=>
 aO .neq t35 (i64 5) λt37=>
 GdW (isB t37 true) [undef] w24 (λJ25=>
 aO .neq t35 (i64 0) λt40=>
 J25 [t40] w24)
 λs25 _ w26=>
 eG t37 (s25.getD 0 undef) (.bool false) λt41=>
 aS t41 (
 aI P0 31 [t19] w26 λt43 w27=>
 lF false 2 1 t43 λt44=>
 aI P0 33 [(i64 50),t44] w27 λt45 w28=>
 J23 [] w28) (
 J23 [] w26))
 λs23 _ w29=>
 aI P0 30 [t19] w29 λt47 w30=>
 L16 [] w30) (
 ldW true 3 t2 w18 λt48=>
 stW 3 t2 t48 w18 λw31=>
 stW 1 t3 (.pointer none) w31 λw32=>
 AN P0 29 [t2,t3] .returning w32 λw33=>
 ldW true 3 t2 w33 λr34=>
 ldW false 1 t3 w33 λr35=>
 K (.tuple #[r34,r35]) w33))
theorem Ud(v0:Value)(w:World)(K:Q0):OU P0 Tryz.f12 Hf 3 [v0] w (EO K)=W12 v0 w K:=by kernel_rfl
theorem Qh:Bg P0 Tryz.f12 Hf 4 29 3 1=true:=by kernel_rfl
theorem Uc{K:Q0}(h:W12 v0 w K):aI P0 12 [v0] w K:=
 VU P0 12 Tryz.f12 Hf [v0] w K 4 29 3 1 (W12 v0 w K) rfl mixed Tryz.func12 Qh (Ud v0 w K) Tryz.call12 Tryz.call29 h
def Lc:dP:={js:=[],ds:=[(5,⟨[0,1,2],[[],[],[1],[0],[0,1,2,3]]⟩)]}
def R29(v0 v1:Value)(x:Value)(w:World)(K:World->Prop):Prop:=
 letI:HX:=noX
 eqQ P0 .neq 20 false true x .nilIface w λt5=>
 aS t5 (
 gJ [sN,sN,sN] [] λc1=>
 Bq P0 (Instr.typeAssert x 20 29 false) w.drew λt8=>
 stW 3 v0 (.agg c1.toArray) w.drew λw2=>
 (Bq P0 (Instr.typeAssert x 20 29 false) w2 λx=>x=t8)/\
 stW 1 v1 t8 w2 λw3=>
 K w3) (
 K w)
theorem Uf(v0 v1:Value)(x:Value)(w:World)(K:World->Prop):Te P0 Tryz.f29 Lc [v0,v1] x w K=R29 v0 v1 x w K:=by kernel_rfl
theorem Qz:ED P0 Tryz.f29 Lc 2=true:=by kernel_rfl
theorem MG{v0 v1:Value}{x:Value}{u:FrameMode}{K:World->Prop}(hu:Finds u x)(h:R29 v0 v1 x w K):AN P0 29 [v0,v1] u w K:=
 Hz (args:=[v0,v1]) mixed Tryz.func29 Qz hu (by rw[Uf];exact h)
def Sv:dP:={js:=[(1,⟨[],[],1⟩)],ds:=[]}
def W30(v0:Value)(w:World)(K:Q0):=dD [] w λs1 _ w2 L1=>aI P0 31 [v0] w2 λt3 w3=>lF false 0 1 t3 λt4=>aO .eql t4 (i64 5) λt5=>aS t5 (dR v0 λt7=>bA 1 t7 λt8=>ldW false 1 t8 w3 λt9=>aO .add t9 (i64 1) λt10=>dR v0 λt11=>bA 1 t11 λt12=>stW 1 t12 t10 w3 λw4=>L1 [] w4) (K (.tuple #[]) w3)
theorem TV{K:Q0}(h:W30 v0 w K):aI P0 30 [v0] w K:=
 tie _ 30 Tryz.f30 Sv _ w K 1 _ rfl mixed Tryz.func30 (by kernel_rfl) (by kernel_rfl) Tryz.call30 h
def Su:dP:={js:=[(4,⟨[],[],3⟩)],ds:=[(16,⟨[0,1,2,3,4,5,6,7],[[],[0],[],[2],[2,3],[2,3,4],[0,1,2,3,4,5],[0,1,2,3,4,5,6],[0,1,2,3,4,5,6,7]]⟩),(14,⟨[0,1,2,3,4,5,6,7,8,9],[[],[0],[0,1],[0,1,2],[],[4],[4,5],[4,5,6],[0,1,2,3,4,5,6,7],[0,1,2,3,4,5,6,7,8],[],[0,1,2,3,4,5,6,7,8,9,10]]⟩),(7,⟨[0,1,2,3,4,5,6,7,8,9,10,11,12,13,14,15,16,17],[[],[0],[0,1],[0,1,2],[0,1,2,3],[0,1,2,3,4],[0,1,2,3,4,5],[0,1,2,3,4,5,6],[0,1,2,3,4,5,6,7],[0,1,2,3,4],[0,1,2,3,4,9],[0,1,2,3,4,9,10],[0,1,2,3,4,9,10,11],[0,1,2,3,4,5,6,7,8,9,10,11,12],[0,1,2,3,4,5,6,7,8,9,10,11,12,13],[0,1,2,3,4,5,6,7,8,9,10,11,12,13,14],[0,1,2,3,4,5,6,7,8,9,10,11,12,13,14,15],[0,1,2,3,4,5,6,7,8,9,10,11,12,13,14,15,16]]⟩)]}
def W31(v0:Value)(w:World)(K:Q0):=cN 95 zL0 w λt2 w1=>dD [] w1 λs2 _ w3 L2=>dR v0 λt5=>bA 5 t5 λt6=>ldW false 1 t6 w3.drew λt7=>GqW (isB t7 true) (λk4=>k4 v0) λt9=>GqW (isB t7 true) (λk5=>dR t9 k5) λt10=>GqW (isB t7 true) (λk6=>bA 0 t10 k6) λt11=>GqW (isB t7 true) (λk7=>ldW false 1 t11 w3.drew k7) λt12=>GqW (isB t7 true) (λk8=>k8 v0) λt13=>GqW (isB t7 true) (λk9=>dR t13 k9) λt14=>GqW (isB t7 true) (λk10=>bA 1 t14 k10) λt15=>GqW (isB t7 true) (λk11=>ldW false 1 t15 w3.drew k11) λt16=>GqW (isB t7 true) (λk12=>fO none 3 t12 t16 k12) λt17=>GqW (isB t7 true) (λk13=>bA 0 t17 k13) λt18=>GqW (isB t7 true) (λk14=>ldW false 1 t18 w3.drew k14) λt19=>GqW (isB t7 true) (λk15=>aO .eql t19 (i64 5) k15) λt20=>eG t7 t20 (.bool false) λt21=>aS t21 (dR v0 λt23=>bA 1 t23 λt24=>ldW false 1 t24 w3.drew λt25=>aO .add t25 (i64 1) λt26=>dR v0 λt27=>bA 1 t27 λt28=>stW 1 t28 t26 w3.drew λw16=>L2 [] w16) (dR v0 λt30=>bA 0 t30 λt31=>ldW false 1 t31 w3.drew.drew λt32=>dR v0 λt34=>bA 1 t34 λt35=>ldW false 1 t35 w3.drew.drew λt36=>fO none 3 t32 t36 λt37=>ldW true 3 t37 w3.drew.drew λt38=>cN 95 zL0 w3.drew.drew λt3 w17=>(ldW true 3 t37 w17 λx=>x=t38)/\(ldW false 1 t35 w17 λx=>x=t36)/\(ldW false 1 t31 w17 λx=>x=t32)/\stW 3 t3 t38 w17 λw18=>bA 2 t3 λt39=>ldW false 1 t39 w18.drew λt40=>dR v0 λt42=>bA 2 t42 λt43=>ldW false 1 t43 w18.drew λt44=>aO .add t40 t44 λt45=>bA 2 t3 λt46=>stW 1 t46 t45 w18.drew λw19=>ldW true 3 t3 w19 λt47=>stW 3 t2 t47 w19 λw20=>ldW true 3 t2 w20 λr21=>K r21 w20)
theorem TU{K:Q0}(h:W31 v0 w K):aI P0 31 [v0] w K:=
 tie _ 31 Tryz.f31 Su _ w K 1 _ rfl mixed Tryz.func31 (by kernel_rfl) (by kernel_rfl) Tryz.call31 h
def Ss:dP:={js:=[(19,⟨[],[],6⟩),(8,⟨[],[],5⟩)],ds:=[(28,⟨[0,1,2,3,4,5,6,7,8,9,10,11,14,15],[[],[0],[0,1],[0,1,2],[],[4],[4,5],[4,5,6],[4,5,6,7],[4,5,6,7,8],[4,5,6,7,8,9],[],[11],[4,5,6,7,8,9,10,11,12],[0,1,2,3,4,5,6,7,8,9,10,11,12,13],[0,1,2,3,4,5,6,7,8,9,10,11,12,13,14],[0,1,2,3,4,5,6,7,8,9,10,11,12,13,14,15]]⟩),(16,⟨[0,1,2,3,8],[[],[0],[],[],[3],[2,3,4],[2,3,4,5],[0,1,2,3,4,5,6],[0,1,2,3,4,5,6,7],[0,1,2,3,4,5,6,7,8]]⟩)]}
def W32(v0:Value)(w:World)(K:Q0):=mR 89 v0 w λt1 w1=>ldW false 1 t1 w1 λt6=>aI P0 62 [t6,(i64 1)] w1 λt7 w2=>cN 95 zL0 w2 λt3 w3=>stW 3 t3 t7 w3 λw4=>bA 1 t3 λt8=>ldW false 1 t8 w4 λt9=>bA 2 t3 λt10=>ldW false 1 t10 w4 λt11=>gJ [(str []),sN,sN,sN,(i64 0)] [(0,1,t9),(4,1,t11)] λc5=>cN 38 zL2 w4 λt4 w6=>stW 5 t4 (.agg c5.toArray) w6 λw7=>dD [] w7 λs8 _ w9 L8=>ldW false 1 t1 w9 λt13=>aI P0 31 [t13] w9 λt14 w10=>lF false 0 1 t14 λt15=>aO .eql t15 (i64 3) λt16=>aS t16 (bA 1 t4 λt17=>ldW false 1 t17 w10.drew λt18=>ldW false 1 t1 w10.drew λt19=>ldW false 1 t1 w10.drew λt20=>aI P0 64 [t20] w10.drew λt21 w11=>(ldW false 1 t1 w11 λx=>x=t19)/\(ldW false 1 t17 w11 λx=>x=t18)/\aI P0 63 [t19,t21] w11 λt22 w12=>(ldW false 1 t17 w12 λx=>x=t18)/\fH 9 1 [(str [])] [(0,1,t22)] w12 λt23 w13=>(ldW false 1 t17 w13 λx=>x=t18)/\fG P0 (Builtin.append_ #[33,33] 33 #[t18,t23]) w13 λt24 w14=>bA 1 t4 λt25=>stW 1 t25 t24 w14 λw15=>L8 [] w15) (ldW false 1 t1 w10 λt26=>aI P0 31 [t26] w10 λt27 w16=>cN 95 zL0 w16 λt5 w17=>stW 3 t5 t27 w17 λw18=>cK (λJ19=>ldW false 1 t1 w18 λt28=>fH 9 1 [(str [])] [(0,1,(str [123]))] w18 λt29 w20=>aI P0 65 [t28,t29] w20 λt30 w21=>unW .not t30 λt31=>aS t31 (bA 2 t5 λt32=>ldW false 1 t32 w21 λt33=>aI P0 33 [(i64 50),t33] w21 λt34 w22=>J19 [] w22) (J19 [] w21)) λs19 _ w23=>ldW false 1 t1 w23 λt35=>bA 2 t5 λt36=>ldW false 1 t36 w23 λt37=>aI P0 66 [t35,t37,(.bool false),(.func (.func 67) #[] #[t1,t4])] w23 λt39 w24=>ldW false 1 t1 w24.drew λt40=>dR t40 λt41=>bA 3 t41 λt42=>ldW false 1 t42 w24.drew λt43=>ldW false 1 t1 w24.drew λt44=>dR t44 λt45=>bA 3 t45 λt46=>ldW false 1 t46 w24.drew λt47=>dR t47 λt48=>bA 1 t48 λt49=>ldW false 1 t49 w24.drew λt50=>ldW true 5 t4 w24.drew λt51=>fH 38 1 [(str []),sN,sN,sN,(i64 0)] [(0,5,t51)] w24.drew λt52 w25=>(ldW false 1 t49 w25 λx=>x=t50)/\(ldW false 1 t46 w25 λx=>x=t47)/\(ldW false 1 t1 w25 λx=>x=t44)/\(ldW false 1 t42 w25 λx=>x=t43)/\(ldW false 1 t1 w25 λx=>x=t40)/\fG P0 (Builtin.append_ #[25,25] 25 #[t50,t52]) w25 λt53 w26=>(ldW false 1 t42 w26 λx=>x=t43)/\(ldW false 1 t1 w26 λx=>x=t40)/\dR t43 λt54=>bA 1 t54 λt55=>stW 1 t55 t53 w26 λw27=>ldW false 1 t1 w27 λt56=>dR t56 λt57=>bA 3 t57 λt58=>ldW false 1 t58 w27 λt59=>dR t59 λt60=>bA 1 t60 λt61=>ldW false 1 t61 w27 λt62=>iB t62 λt63=>aO .sub t63 (i64 1) λt64=>K t64 w27)
theorem TP{K:Q0}(h:W32 v0 w K):aI P0 32 [v0] w K:=
 tie _ 32 Tryz.f32 Ss _ w K 1 _ rfl mixed Tryz.func32 (by kernel_rfl) (by kernel_rfl) Tryz.call32 h
def Sr:dP:={js:=[],ds:=[]}
def W33(v0 v1:Value)(w:World)(K:Q0):=gJ [(i64 0),(str []),(i64 0)] [(0,1,v0),(2,1,v1)] λc1=>mR 48 (.agg c1.toArray) w λt7 w2=>Lb (.iface 29 t7) w2
theorem TO{K:Q0}(h:W33 v0 v1 w K):aI P0 33 [v0,v1] w K:=
 tie _ 33 Tryz.f33 Sr _ w K 2 _ rfl mixed Tryz.func33 (by kernel_rfl) (by kernel_rfl) Tryz.call33 h
def Sj:dP:={js:=[(2,⟨[],[],5⟩)],ds:=[]}
def W62(v0 v1:Value)(w:World)(K:Q0):=cN 95 zL0 w λt4 w1=>cK (λJ2=>aI P0 31 [v0] w1 λt6 w3=>lF false 0 1 t6 λt7=>aO .neq t7 v1 λt9=>aS t9 (aI P0 31 [v0] w3 λt11 w4=>lF false 2 1 t11 λt12=>aI P0 33 [(i64 50),t12] w4 λt13 w5=>J2 [] w5) (J2 [] w3)) λs2 _ w6=>aI P0 64 [v0] w6 λt15 w7=>stW 3 t4 t15 w7 λw8=>ldW true 3 t4 w8 λr9=>K r9 w8
theorem TH{K:Q0}(h:W62 v0 v1 w K):aI P0 62 [v0,v1] w K:=
 tie _ 62 Tryz.f62 Sj _ w K 2 _ rfl mixed Tryz.func62 (by kernel_rfl) (by kernel_rfl) Tryz.call62 h
def Si:dP:={js:=[(2,⟨[],[],4⟩)],ds:=[]}
def W63(v0 v1:Value)(w:World)(K:Q0):=mR 95 v1 w λt3 w1=>cK (λJ2=>bA 1 t3 λt8=>ldW false 1 t8 w1 λt9=>aI P0 115 [t9] w1 λt10 w3=>iX 0 t10 λt11=>iX 1 t10 λt12=>aO .geq t11 (i64 0) λt14=>aS t14 (bA 2 t3 λt15=>ldW false 1 t15 w3 λt16=>aI P0 33 [(i64 50),t16] w3 λt17 w4=>J2 [] w4) (J2 [] w3)) λs2 _ w5=>bA 1 t3 λt18=>ldW false 1 t18 w5 λt19=>aI P0 116 [t19] w5 λt20 w6=>K t20 w6
theorem TF{K:Q0}(h:W63 v0 v1 w K):aI P0 63 [v0,v1] w K:=
 tie _ 63 Tryz.f63 Si _ w K 2 _ rfl mixed Tryz.func63 (by kernel_rfl) (by kernel_rfl) Tryz.call63 h
def Sf:dP:={js:=[(4,⟨[],[],4⟩)],ds:=[]}
def W64(v0:Value)(w:World)(K:Q0):=cN 95 zL0 w λt2 w1=>aI P0 31 [v0] w1 λt5 w2=>cN 95 zL0 w2 λt3 w3=>stW 3 t3 t5 w3 λw4=>cK (λJ5=>bA 0 t3 λt6=>ldW false 1 t6 w4 λt7=>aO .neq t7 (i64 0) λt8=>aS t8 (dR v0 λt10=>bA 1 t10 λt11=>ldW false 1 t11 w4 λt12=>aO .add t12 (i64 1) λt13=>dR v0 λt14=>bA 1 t14 λt15=>stW 1 t15 t13 w4 λw6=>J5 [] w6) (J5 [] w4)) λs5 _ w7=>ldW true 3 t3 w7 λt16=>stW 3 t2 t16 w7 λw8=>ldW true 3 t2 w8 λr9=>K r9 w8
theorem TE{K:Q0}(h:W64 v0 w K):aI P0 64 [v0] w K:=
 tie _ 64 Tryz.f64 Sf _ w K 1 _ rfl mixed Tryz.func64 (by kernel_rfl) (by kernel_rfl) Tryz.call64 h
def Se:dP:={js:=[(5006,⟨[15],[],12⟩)],ds:=[]}
def W65(v0 v1:Value)(w:World)(K:Q0):=aI P0 31 [v0] w λt7 w1=>cN 95 zL0 w1 λt5 w2=>stW 3 t5 t7 w2 λw3=>bA 0 t5 λt8=>ldW false 1 t8 w3 λt9=>aO .eql t9 (i64 4) λt10=>GdW (isB t10 true) [undef] w3 (λJ4=>bA 1 t5 λt13=>ldW false 1 t13 w3 λt14=>aI P0 117 [v1,t14] w3 λt15 w5=>J4 [t15] w5) λs4 _ w6=>eG t10 (s4.getD 0 undef) (.bool false) λt16=>K t16 w6
theorem TD{K:Q0}(h:W65 v0 v1 w K):aI P0 65 [v0,v1] w K:=
 tie _ 65 Tryz.f65 Se _ w K 2 _ rfl mixed Tryz.func65 (by kernel_rfl) (by kernel_rfl) Tryz.call65 h
def Sd:dP:={js:=[(0,⟨[],[],4⟩)],ds:=[]}
def W66(v0 v1 v2 v3:Value)(w:World)(K:Q0):=cK (λJ1=>dR v0 λt10=>bA 4 t10 λt11=>ldW false 1 t11 w λt12=>aO .eql t12 (i64 24) λt13=>aS t13 (aI P0 33 [(i64 7),v1] w λt15 w2=>J1 [] w2) (J1 [] w)) λs1 _ w3=>dR v0 λt17=>bA 5 t17 λt18=>ldW false 1 t18 w3 λt19=>dR v0 λt21=>bA 4 t21 λt22=>ldW false 1 t22 w3 λt23=>aO .add t23 (i64 1) λt24=>dR v0 λt25=>bA 4 t25 λt26=>stW 1 t26 t24 w3 λw4=>dR v0 λt29=>bA 5 t29 λt30=>stW 1 t30 v2 w4 λw5=>AE P0 v3 [] w5 λt32 w6=>dR v0 λt34=>bA 4 t34 λt35=>ldW false 1 t35 w6 λt36=>aO .sub t36 (i64 1) λt37=>dR v0 λt38=>bA 4 t38 λt39=>stW 1 t39 t37 w6 λw7=>dR v0 λt42=>bA 5 t42 λt43=>stW 1 t43 t19 w7 λw8=>K (.tuple #[]) w8
theorem TB{K:Q0}(h:W66 v0 v1 v2 v3 w K):aI P0 66 [v0,v1,v2,v3] w K:=
 tie _ 66 Tryz.f66 Sd _ w K 4 _ rfl mixed Tryz.func66 (by kernel_rfl) (by kernel_rfl) Tryz.call66 h
def Sb:dP:={js:=[(15,⟨[],[],2⟩),(17005,⟨[24],[],21⟩),(5,⟨[],[],2⟩)],ds:=[]}
def W67(v0 v1:Value)(w:World)(K:Q0):=ldW false 1 v0 w λt2=>dR t2 λt3=>bA 1 t3 λt4=>ldW false 1 t4 w λt5=>aO .add t5 (i64 1) λt6=>dR t2 λt7=>bA 1 t7 λt8=>stW 1 t8 t6 w λw1=>ldW false 1 v0 w1 λt9=>aI P0 30 [t9] w1 λt10 w2=>dD [] w2 λs3 _ w4 L3=>ldW false 1 v0 w4 λt11=>aI P0 68 [t11,(str [125])] w4 λt12 w5=>unW .not t12 λt13=>aS t13 (ldW false 1 v0 w5 λt14=>aI P0 69 [t14,v1] w5 λt15 w6=>cK (λJ7=>ldW false 1 v0 w6 λt16=>aI P0 31 [t16] w6 λt17 w8=>lF false 0 1 t17 λt18=>aO .neq t18 (i64 5) λt19=>GdW (isB t19 true) [undef] w8 (λJ9=>ldW false 1 v0 w8 λt21=>fH 9 1 [(str [])] [(0,1,(str [125]))] w8 λt22 w10=>aI P0 65 [t21,t22] w10 λt23 w11=>unW .not t23 λt24=>J9 [t24] w11) λs9 _ w12=>eG t19 (s9.getD 0 undef) (.bool false) λt25=>aS t25 (ldW false 1 v0 w12 λt26=>aI P0 31 [t26] w12 λt27 w13=>lF false 2 1 t27 λt28=>aI P0 33 [(i64 50),t28] w13 λt29 w14=>J7 [] w14) (J7 [] w12)) λs7 _ w15=>ldW false 1 v0 w15 λt30=>aI P0 30 [t30] w15 λt31 w16=>L3 [] w16) (K (.tuple #[]) w5)
theorem TA{K:Q0}(h:W67 v0 v1 w K):aI P0 67 [v0,v1] w K:=
 tie _ 67 Tryz.f67 Sb _ w K 2 _ rfl mixed Tryz.func67 (by kernel_rfl) (by kernel_rfl) Tryz.call67 h
def Sa:dP:={js:=[],ds:=[]}
def W68(v0 v1:Value)(w:World)(K:Q0):=fH 9 1 [(str [])] [(0,1,v1)] w λt7 w1=>aI P0 65 [v0,t7] w1 λt8 w2=>unW .not t8 λt9=>aS t9 (K (.bool false) w2) (dR v0 λt11=>bA 1 t11 λt12=>ldW false 1 t12 w2 λt13=>aO .add t13 (i64 1) λt14=>dR v0 λt15=>bA 1 t15 λt16=>stW 1 t16 t14 w2 λw3=>K (.bool true) w3)
theorem Tz{K:Q0}(h:W68 v0 v1 w K):aI P0 68 [v0,v1] w K:=
 tie _ 68 Tryz.f68 Sa _ w K 2 _ rfl mixed Tryz.func68 (by kernel_rfl) (by kernel_rfl) Tryz.call68 h
def RZ:dP:={js:=[],ds:=[(12,⟨[0,1,2,3,4,5,9,10],[[],[],[1],[1,2],[1,2,3],[],[5],[5,6],[1,2,3,4,5,6,7],[0,1,2,3,4,5,6,7,8],[0,1,2,3,4,5,6,7,8,9],[0,1,2,3,4,5,6,7,8,9,10]]⟩),(7,⟨[0,1,2,3,4,5,6,7,9,10,11,14,15],[[],[],[1],[1,2],[1,2,3],[],[5],[],[7],[],[9],[5,6,7,8,9,10],[5,6,7,8,9,10,11],[1,2,3,4,5,6,7,8,9,10,11,12],[0,1,2,3,4,5,6,7,8,9,10,11,12,13],[0,1,2,3,4,5,6,7,8,9,10,11,12,13,14],[0,1,2,3,4,5,6,7,8,9,10,11,12,13,14,15]]⟩)]}
def W69(v0 v1:Value)(w:World)(K:Q0):=aI P0 62 [v0,(i64 1)] w λt6 w1=>cN 95 zL0 w1 λt4 w2=>stW 3 t4 t6 w2 λw3=>aI P0 68 [v0,(str [61])] w3 λt8 w4=>aS t8 (dR v1 λt11=>bA 2 t11 λt12=>ldW false 1 t12 w4.drew λt13=>bA 1 t4 λt14=>ldW false 1 t14 w4.drew λt15=>bA 2 t4 λt18=>ldW false 1 t18 w4.drew λt19=>aI P0 118 [v0] w4.drew λt17 w5=>(ldW false 1 t18 w5 λx=>x=t19)/\(ldW false 1 t14 w5 λx=>x=t15)/\(ldW false 1 t12 w5 λx=>x=t13)/\gJ [(str []),(i64 0),(i64 0)] [(0,1,t15),(1,1,t17),(2,1,t19)] λc6=>fH 40 1 [(str []),(i64 0),(i64 0)] [(0,3,(.agg c6.toArray))] w5 λt21 w7=>(ldW false 1 t12 w7 λx=>x=t13)/\fG P0 (Builtin.append_ #[36,36] 36 #[t13,t21]) w7 λt22 w8=>dR v1 λt23=>bA 2 t23 λt24=>stW 1 t24 t22 w8 λw9=>K (.tuple #[]) w9) (dR v0 λt26=>bA 1 t26 λt27=>ldW false 1 t27 w4 λt28=>aO .sub t28 (i64 1) λt29=>dR v0 λt30=>bA 1 t30 λt31=>stW 1 t31 t29 w4 λw10=>dR v1 λt34=>bA 3 t34 λt35=>ldW false 1 t35 w10.drew λt36=>aI P0 32 [v0] w10.drew λt38 w11=>(ldW false 1 t35 w11 λx=>x=t36)/\fH 3 1 [(i64 0)] [(0,1,t38)] w11 λt39 w12=>(ldW false 1 t35 w12 λx=>x=t36)/\fG P0 (Builtin.append_ #[26,26] 26 #[t36,t39]) w12 λt40 w13=>dR v1 λt41=>bA 3 t41 λt42=>stW 1 t42 t40 w13 λw14=>K (.tuple #[]) w14)
theorem Ty{K:Q0}(h:W69 v0 v1 w K):aI P0 69 [v0,v1] w K:=
 tie _ 69 Tryz.f69 RZ _ w K 2 _ rfl mixed Tryz.func69 (by kernel_rfl) (by kernel_rfl) Tryz.call69 h
def Ob:dP:={js:=[(13,⟨[4],[],1⟩),(6,⟨[4],[],1⟩)],ds:=[]}
def VF(v0:Value)(w:World)(K:Q0):=dD [(i64 0)] w λs1 _ w2 L1=>iK v0 λt7=>aO .lss (s1.getD 0 undef) t7 λt8=>aS t8 (cK (λJ3=>pH v0 (s1.getD 0 undef) λt13=>aO .eql t13 (.int .u8 92) λt14=>aS t14 (aO .add (s1.getD 0 undef) (i64 1) λt16=>J3 [t16] w2) (mN v0 (some (s1.getD 0 undef)) none λt19=>aI P0 59 [t19,(str [36,123])] w2 λt20 w4=>aS t20 (aO .add (s1.getD 0 undef) (i64 1) λt23=>aO .add (s1.getD 0 undef) (i64 1) λt26=>mN v0 (some t26) none λt27=>aI P0 153 [t27] w4 λt28 w5=>aO .add t23 t28 λt29=>K (.tuple #[(s1.getD 0 undef),t29]) w5) (J3 [(s1.getD 0 undef)] w4))) λs3 _ w6=>aO .add (s3.getD 0 undef) (i64 1) λt10=>L1 [t10] w6) (K (.tuple #[(.int .i64 (-1)),(i64 0)]) w2)
theorem Qn{K:Q0}(h:VF v0 w K):aI P0 115 [v0] w K:=
 tie _ 115 Tryz.f115 Ob _ w K 1 _ rfl mixed Tryz.func115 (by kernel_rfl) (by kernel_rfl) Tryz.call115 h
def Oa:dP:={js:=[(19,⟨[4,5],[],4⟩),(8,⟨[4],[],4⟩)],ds:=[]}
def VE(v0:Value)(w:World)(K:Q0):=cN 114 zL3 w λt3 w1=>dD [(i64 0)] w1 λs2 _ w3 L2=>iK v0 λt8=>aO .lss (s2.getD 0 undef) t8 λt9=>aS t9 (pH v0 (s2.getD 0 undef) λt14=>cK (λJ4=>aO .eql t14 (.int .u8 92) λt16=>aS t16 (aO .add (s2.getD 0 undef) (i64 1) λt18=>pH v0 t18 λt21=>aO .eql t21 (.int .u8 110) λt24=>aS t24 (J4 [t18,(.int .u8 10)] w3) (aO .eql t21 (.int .u8 116) λt26=>aS t26 (J4 [t18,(.int .u8 9)] w3) (aO .eql t21 (.int .u8 114) λt28=>aS t28 (J4 [t18,(.int .u8 13)] w3) (J4 [t18,t21] w3)))) (J4 [(s2.getD 0 undef),t14] w3)) λs4 _ w5=>aI P0 126 [t3,(s4.getD 1 undef)] w5 λt30 w6=>aO .add (s4.getD 0 undef) (i64 1) λt11=>L2 [t11] w6) (aI P0 44 [t3] w3 λt31 w7=>K t31 w7)
theorem Qm{K:Q0}(h:VE v0 w K):aI P0 116 [v0] w K:=
 tie _ 116 Tryz.f116 Oa _ w K 1 _ rfl mixed Tryz.func116 (by kernel_rfl) (by kernel_rfl) Tryz.call116 h
def NY:dP:={js:=[],ds:=[(17,⟨[0,1,2,3,4,5,6,7],[[],[],[1],[],[3],[3,4],[3,4,5],[],[0,1,2,3,4,5,6,7]]⟩)]}
def VC(v0:Value)(w:World)(K:Q0):=mR 89 v0 w λt1 w1=>ldW false 1 t1 w1 λt6=>aI P0 155 [t6,(i64 0)] w1 λt7 w2=>ldW false 1 t1 w2 λt8=>aI P0 31 [t8] w2 λt9 w3=>cN 95 zL0 w3 λt4 w4=>stW 3 t4 t9 w4 λw5=>ldW false 1 t1 w5 λt10=>aI P0 68 [t10,(str [63])] w5 λt11 w6=>unW .not t11 λt12=>aS t12 (K t7 w6) (fH 3 3 [(i64 0),(i64 0),(i64 0)] [(0,1,t7),(1,1,(i64 0)),(2,1,(i64 0))] w6 λt15 w7=>cN 26 [sN] w7 λt5 w8=>stW 1 t5 t15 w8 λw9=>ldW false 1 t1 w9.drew λt16=>bA 2 t4 λt17=>ldW false 1 t17 w9.drew λt18=>ldW false 1 t1 w9.drew λt19=>dR t19 λt20=>bA 5 t20 λt21=>ldW false 1 t21 w9.drew λt22=>aI P0 66 [t16,t18,t22,(.func (.func 156) #[] #[t1,t5])] w9.drew λt24 w10=>ldW false 1 t1 w10 λt25=>ldW false 1 t5 w10 λt26=>bA 2 t4 λt27=>ldW false 1 t27 w10 λt28=>gJ [(i64 0),(str []),sN,sN,(i64 0)] [(0,1,(i64 28)),(2,1,t26),(4,1,t28)] λc11=>aI P0 158 [t25,(.agg c11.toArray)] w10 λt30 w12=>K t30 w12)
theorem Qk{K:Q0}(h:VC v0 w K):aI P0 118 [v0] w K:=
 tie _ 118 Tryz.f118 NY _ w K 1 _ rfl mixed Tryz.func118 (by kernel_rfl) (by kernel_rfl) Tryz.call118 h
def NS:dP:={js:=[(15,⟨[3,4],[],1⟩),(8,⟨[3,4],[],1⟩)],ds:=[]}
def Vw(v0:Value)(w:World)(K:Q0):=dD [(i64 0),(i64 0)] w λs1 _ w2 L1=>iK v0 λt7=>aO .lss (s1.getD 1 undef) t7 λt8=>aS t8 (cK (λJ3=>pH v0 (s1.getD 1 undef) λt13=>aO .eql t13 (.int .u8 123) λt15=>aS t15 (aO .add (s1.getD 0 undef) (i64 1) λt17=>J3 [t17,(s1.getD 1 undef)] w2) (aO .eql t13 (.int .u8 125) λt19=>aS t19 (aO .sub (s1.getD 0 undef) (i64 1) λt21=>aO .eql t21 (i64 0) λt23=>aS t23 (aO .add (s1.getD 1 undef) (i64 1) λt25=>K t25 w2) (J3 [t21,(s1.getD 1 undef)] w2)) (aO .eql t13 (.int .u8 34) λt27=>aS t27 (mN v0 (some (s1.getD 1 undef)) none λt31=>aI P0 202 [t31] w2 λt32 w4=>aO .sub t32 (i64 1) λt33=>aO .add (s1.getD 1 undef) t33 λt34=>J3 [(s1.getD 0 undef),t34] w4) (J3 [(s1.getD 0 undef),(s1.getD 1 undef)] w2)))) λs3 _ w5=>aO .add (s3.getD 1 undef) (i64 1) λt10=>L1 [(s3.getD 0 undef),t10] w5) (iK v0 λt36=>K t36 w2)
theorem Qd{K:Q0}(h:Vw v0 w K):aI P0 153 [v0] w K:=
 tie _ 153 Tryz.f153 NS _ w K 1 _ rfl mixed Tryz.func153 (by kernel_rfl) (by kernel_rfl) Tryz.call153 h
def NQ:dP:={js:=[(13,⟨[5],[],2⟩)],ds:=[]}
def Ub(v0 v1:Value)(w:World)(K:Q0):=aO .eql v1 (i64 6) λt10=>aS t10 (aI P0 203 [v0] w λt12 w1=>K t12 w1) (aO .add v1 (i64 1) λt15=>aI P0 155 [v0,t15] w λt16 w2=>dD [t16] w2 λs3 _ w4 L3=>aI P0 31 [v0] w4 λt18 w5=>cN 95 zL0 w5 λt6 w6=>stW 3 t6 t18 w6 λw7=>ldW true 3 t6 w7 λt19=>aI P0 204 [t19,v1] w7 λt21 w8=>aO .eql t21 (i64 0) λt23=>aS t23 (K (s3.getD 0 undef) w8) (dR v0 λt26=>bA 1 t26 λt27=>ldW false 1 t27 w8 λt28=>aO .add t28 (i64 1) λt29=>dR v0 λt30=>bA 1 t30 λt31=>stW 1 t31 t29 w8 λw9=>aO .add v1 (i64 1) λt34=>aI P0 155 [v0,t34] w9 λt35 w10=>fH 3 2 [(i64 0),(i64 0)] [(0,1,(s3.getD 0 undef)),(1,1,t35)] w10 λt40 w11=>bA 2 t6 λt41=>ldW false 1 t41 w11 λt42=>gJ [(i64 0),(str []),sN,sN,(i64 0)] [(0,1,t21),(2,1,t40),(4,1,t42)] λc12=>aI P0 158 [v0,(.agg c12.toArray)] w11 λt44 w13=>L3 [t44] w13))
theorem Ja{K:Q0}(h:Ub v0 v1 w K):aI P0 155 [v0,v1] w K:=
 tie _ 155 Tryz.f155 NQ _ w K 2 _ rfl mixed Tryz.func155 (by kernel_rfl) (by kernel_rfl) Tryz.call155 h
def NP:dP:={js:=[],ds:=[(4,⟨[0,1,3],[[],[],[1],[0,1,2],[0,1,2,3]]⟩),(1,⟨[0,1,3],[[],[],[1],[0,1,2],[0,1,2,3]]⟩)]}
def Vu(v0 v1:Value)(w:World)(K:Q0):=ldW false 1 v1 w.drew λt2=>ldW false 1 v0 w.drew λt3=>aI P0 118 [t3] w.drew λt4 w1=>(ldW false 1 v1 w1 λx=>x=t2)/\fO none 1 t2 (i64 1) λt5=>stW 1 t5 t4 w1 λw2=>ldW false 1 v0 w2 λt6=>aI P0 157 [t6,(str [58])] w2 λt7 w3=>ldW false 1 v1 w3.drew λt8=>ldW false 1 v0 w3.drew λt9=>aI P0 118 [t9] w3.drew λt10 w4=>(ldW false 1 v1 w4 λx=>x=t8)/\fO none 1 t8 (i64 2) λt11=>stW 1 t11 t10 w4 λw5=>K (.tuple #[]) w5
theorem Qb{K:Q0}(h:Vu v0 v1 w K):aI P0 156 [v0,v1] w K:=
 tie _ 156 Tryz.f156 NP _ w K 2 _ rfl mixed Tryz.func156 (by kernel_rfl) (by kernel_rfl) Tryz.call156 h
def NO:dP:={js:=[],ds:=[]}
def Vt(v0 v1:Value)(w:World)(K:Q0):=aI P0 68 [v0,v1] w λt6 w1=>unW .not t6 λt7=>aS t7 (aI P0 31 [v0] w1 λt9 w2=>lF false 2 1 t9 λt10=>aI P0 33 [(i64 50),t10] w2 λt11 w3=>K (.tuple #[]) w3) (K (.tuple #[]) w1)
theorem Qa{K:Q0}(h:Vt v0 v1 w K):aI P0 157 [v0,v1] w K:=
 tie _ 157 Tryz.f157 NO _ w K 2 _ rfl mixed Tryz.func157 (by kernel_rfl) (by kernel_rfl) Tryz.call157 h
def NN:dP:={js:=[],ds:=[(3,⟨[0,1,2,3,4,5,6,7,8,9,10,11,14,15],[[],[0],[0,1],[0,1,2],[],[4],[4,5],[4,5,6],[4,5,6,7],[4,5,6,7,8],[4,5,6,7,8,9],[],[11],[4,5,6,7,8,9,10,11,12],[0,1,2,3,4,5,6,7,8,9,10,11,12,13],[0,1,2,3,4,5,6,7,8,9,10,11,12,13,14],[0,1,2,3,4,5,6,7,8,9,10,11,12,13,14,15]]⟩)]}
def Vs(v0 v1:Value)(w:World)(K:Q0):=mR 35 v1 w λt3 w1=>dR v0 λt6=>bA 3 t6 λt7=>ldW false 1 t7 w1.drew λt8=>dR v0 λt10=>bA 3 t10 λt11=>ldW false 1 t11 w1.drew λt12=>dR t12 λt13=>bA 0 t13 λt14=>ldW false 1 t14 w1.drew λt15=>ldW true 5 t3 w1.drew λt16=>fH 35 1 [(i64 0),(str []),sN,sN,(i64 0)] [(0,5,t16)] w1.drew λt17 w2=>(ldW false 1 t14 w2 λx=>x=t15)/\(ldW false 1 t11 w2 λx=>x=t12)/\(ldW false 1 t7 w2 λx=>x=t8)/\fG P0 (Builtin.append_ #[24,24] 24 #[t15,t17]) w2 λt18 w3=>(ldW false 1 t7 w3 λx=>x=t8)/\dR t8 λt19=>bA 0 t19 λt20=>stW 1 t20 t18 w3 λw4=>dR v0 λt22=>bA 3 t22 λt23=>ldW false 1 t23 w4 λt24=>dR t24 λt25=>bA 0 t25 λt26=>ldW false 1 t26 w4 λt27=>iB t27 λt28=>aO .sub t28 (i64 1) λt29=>K t29 w4
theorem PZ{K:Q0}(h:Vs v0 v1 w K):aI P0 158 [v0,v1] w K:=
 tie _ 158 Tryz.f158 NN _ w K 2 _ rfl mixed Tryz.func158 (by kernel_rfl) (by kernel_rfl) Tryz.call158 h
def NK:dP:={js:=[(13,⟨[3],[],1⟩),(6,⟨[3],[],1⟩)],ds:=[]}
def Vo(v0:Value)(w:World)(K:Q0):=dD [(i64 1)] w λs1 _ w2 L1=>iK v0 λt6=>aO .lss (s1.getD 0 undef) t6 λt7=>aS t7 (cK (λJ3=>pH v0 (s1.getD 0 undef) λt13=>aO .eql t13 (.int .u8 34) λt14=>aS t14 (aO .add (s1.getD 0 undef) (i64 1) λt16=>K t16 w2) (pH v0 (s1.getD 0 undef) λt20=>aO .eql t20 (.int .u8 92) λt21=>aS t21 (aO .add (s1.getD 0 undef) (i64 1) λt23=>J3 [t23] w2) (mN v0 (some (s1.getD 0 undef)) none λt27=>aI P0 59 [t27,(str [36,123])] w2 λt28 w4=>aS t28 (aO .add (s1.getD 0 undef) (i64 1) λt32=>mN v0 (some t32) none λt33=>aI P0 153 [t33] w4 λt34 w5=>aO .add (s1.getD 0 undef) t34 λt35=>J3 [t35] w5) (J3 [(s1.getD 0 undef)] w4)))) λs3 _ w6=>aO .add (s3.getD 0 undef) (i64 1) λt9=>L1 [t9] w6) (iK v0 λt37=>K t37 w2)
theorem PV{K:Q0}(h:Vo v0 w K):aI P0 202 [v0] w K:=
 tie _ 202 Tryz.f202 NK _ w K 1 _ rfl mixed Tryz.func202 (by kernel_rfl) (by kernel_rfl) Tryz.call202 h
def NJ:dP:={js:=[(8,⟨[4],[],4⟩)],ds:=[(30,⟨[0,1,2,3,4,5,6,7],[[],[],[1],[],[3],[3,4],[3,4,5],[],[0,1,2,3,4,5,6,7]]⟩)]}
def Vn(v0:Value)(w:World)(K:Q0):=mR 89 v0 w λt1 w1=>ldW false 1 t1 w1 λt6=>aI P0 31 [t6] w1 λt7 w2=>cN 95 zL0 w2 λt3 w3=>stW 3 t3 t7 w3 λw4=>cK (λJ5=>ldW false 1 t1 w4 λt9=>fH 9 1 [(str [])] [(0,1,(str [33]))] w4 λt10 w6=>aI P0 65 [t9,t10] w6 λt11 w7=>aS t11 (J5 [(i64 14)] w7) (ldW false 1 t1 w7 λt13=>fH 9 1 [(str [])] [(0,1,(str [45]))] w7 λt14 w8=>aI P0 65 [t13,t14] w8 λt15 w9=>aS t15 (J5 [(i64 13)] w9) (ldW false 1 t1 w9 λt33=>aI P0 220 [t33] w9 λt34 w10=>K t34 w10))) λs5 _ w11=>cN 3 [(i64 0)] w11 λt5 w12=>stW 1 t5 (i64 0) w12 λw13=>ldW false 1 t1 w13.drew λt16=>bA 2 t3 λt17=>ldW false 1 t17 w13.drew λt18=>ldW false 1 t1 w13.drew λt19=>dR t19 λt20=>bA 5 t20 λt21=>ldW false 1 t21 w13.drew λt22=>aI P0 66 [t16,t18,t22,(.func (.func 219) #[] #[t1,t5])] w13.drew λt24 w14=>ldW false 1 t1 w14 λt25=>ldW false 1 t5 w14 λt27=>fH 3 1 [(i64 0)] [(0,1,t27)] w14 λt28 w15=>bA 2 t3 λt29=>ldW false 1 t29 w15 λt30=>gJ [(i64 0),(str []),sN,sN,(i64 0)] [(0,1,(s5.getD 0 undef)),(2,1,t28),(4,1,t30)] λc16=>aI P0 158 [t25,(.agg c16.toArray)] w15 λt32 w17=>K t32 w17
theorem PU{K:Q0}(h:Vn v0 w K):aI P0 203 [v0] w K:=
 tie _ 203 Tryz.f203 NJ _ w K 1 _ rfl mixed Tryz.func203 (by kernel_rfl) (by kernel_rfl) Tryz.call203 h
def NI:dP:={js:=[],ds:=[]}
def Vm(v0 v1:Value)(w:World)(K:Q0):=mR 95 v0 w λt2 w1=>bA 0 t2 λt5=>ldW false 1 t5 w1 λt6=>aO .neq t6 (i64 4) λt7=>aS t7 (K (i64 0) w1) (aO .mul v1 (i64 100) λt9=>fH 9 13 (List.replicate 13 (str [])) [(0,1,(str [124,124])),(1,1,(str [38,38])),(2,1,(str [61,61])),(3,1,(str [33,61])),(4,1,(str [60])),(5,1,(str [62])),(6,1,(str [60,61])),(7,1,(str [62,61])),(8,1,(str [43])),(9,1,(str [45])),(10,1,(str [42])),(11,1,(str [47])),(12,1,(str [37]))] w1 λt10 w2=>bA 1 t2 λt11=>ldW false 1 t11 w2 λt12=>aI P0 154 [t10,t12] w2 λt13 w3=>aO .add t9 t13 λt14=>aO .eql t14 (i64 0) λt16=>aS t16 (K (i64 27) w3) (aO .eql t14 (i64 101) λt18=>aS t18 (K (i64 26) w3) (aO .eql t14 (i64 202) λt20=>aS t20 (K (i64 20) w3) (aO .eql t14 (i64 203) λt22=>aS t22 (K (i64 21) w3) (aO .eql t14 (i64 304) λt24=>aS t24 (K (i64 22) w3) (aO .eql t14 (i64 305) λt26=>aS t26 (K (i64 23) w3) (aO .eql t14 (i64 306) λt28=>aS t28 (K (i64 24) w3) (aO .eql t14 (i64 307) λt30=>aS t30 (K (i64 25) w3) (aO .eql t14 (i64 408) λt32=>aS t32 (K (i64 15) w3) (aO .eql t14 (i64 409) λt34=>aS t34 (K (i64 16) w3) (aO .eql t14 (i64 510) λt36=>aS t36 (K (i64 17) w3) (aO .eql t14 (i64 511) λt38=>aS t38 (K (i64 18) w3) (aO .eql t14 (i64 512) λt40=>aS t40 (K (i64 19) w3) (K (i64 0) w3))))))))))))))
theorem PT{K:Q0}(h:Vm v0 v1 w K):aI P0 204 [v0,v1] w K:=
 tie _ 204 Tryz.f204 NI _ w K 2 _ rfl mixed Tryz.func204 (by kernel_rfl) (by kernel_rfl) Tryz.call204 h
def NG:dP:={js:=[],ds:=[]}
def Vk(v0 v1:Value)(w:World)(K:Q0):=ldW false 1 v0 w λt2=>dR t2 λt3=>bA 1 t3 λt4=>ldW false 1 t4 w λt5=>aO .add t5 (i64 1) λt6=>dR t2 λt7=>bA 1 t7 λt8=>stW 1 t8 t6 w λw1=>ldW false 1 v0 w1 λt9=>aI P0 203 [t9] w1 λt10 w2=>stW 1 v1 t10 w2 λw3=>K (.tuple #[]) w3
theorem PP{K:Q0}(h:Vk v0 v1 w K):aI P0 219 [v0,v1] w K:=
 tie _ 219 Tryz.f219 NG _ w K 2 _ rfl mixed Tryz.func219 (by kernel_rfl) (by kernel_rfl) Tryz.call219 h
def ND:dP:={js:=[(5,⟨[3],[],2⟩)],ds:=[(31,⟨[0,1,3,6,7,8],[[],[],[1],[1,2],[],[4],[],[6],[1,2,3,4,5,6,7],[0,1,2,3,4,5,6,7,8],[0,1,2,3,4,5,6,7,8,9]]⟩),(13,⟨[0,1,3,6,7,8],[[],[],[1],[1,2],[],[4],[],[6],[1,2,3,4,5,6,7],[0,1,2,3,4,5,6,7,8],[0,1,2,3,4,5,6,7,8,9]]⟩)]}
def Vj(v0:Value)(w:World)(K:Q0):=mR 89 v0 w λt1 w1=>ldW false 1 t1 w1 λt7=>aI P0 226 [t7] w1 λt8 w2=>dD [t8] w2 λs3 _ w4 L3=>ldW false 1 t1 w4 λt9=>aI P0 31 [t9] w4 λt10 w5=>cN 95 zL0 w5 λt4 w6=>stW 3 t4 t10 w6 λw7=>ldW false 1 t1 w7 λt13=>aI P0 68 [t13,(str [46])] w7 λt14 w8=>aS t14 (ldW false 1 t1 w8.drew λt15=>ldW false 1 t1 w8.drew λt16=>bA 2 t4 λt21=>ldW false 1 t21 w8.drew λt22=>(aI P0 62 [t16,(i64 1)] w8.drew λt17 w9=>(ldW false 1 t21 w9 λx=>x=t22)/\(ldW false 1 t1 w9 λx=>x=t15)/\lF false 1 1 t17 λt18=>(ldW false 1 t21 w9 λx=>x=t22)/\(ldW false 1 t1 w9 λx=>x=t15)/\fH 3 1 [(i64 0)] [(0,1,(s3.getD 0 undef))] w9 λt20 w10=>(ldW false 1 t21 w10 λx=>x=t22)/\(ldW false 1 t1 w10 λx=>x=t15)/\gJ [(i64 0),(str []),sN,sN,(i64 0)] [(0,1,(i64 10)),(1,1,t18),(2,1,t20),(4,1,t22)] λc11=>aI P0 158 [t15,(.agg c11.toArray)] w10 λt24 w12=>L3 [t24] w12)/\((ldW false 1 t21 w8.drew λx=>x=t22)/\(ldW false 1 t1 w8.drew λx=>x=t16)/\(ldW false 1 t1 w8.drew λx=>x=t15)/\(aI P0 62 [t16,(i64 1)] w8.drew λt17 w13=>(ldW false 1 t21 w13 λx=>x=t22)/\(ldW false 1 t1 w13 λx=>x=t15)/\lF false 1 1 t17 λt18=>fH 3 1 [(i64 0)] [(0,1,(s3.getD 0 undef))] w13 λt20 w14=>(ldW false 1 t21 w14 λx=>x=t22)/\(ldW false 1 t1 w14 λx=>x=t15)/\gJ [(i64 0),(str []),sN,sN,(i64 0)] [(0,1,(i64 10)),(1,1,t18),(2,1,t20),(4,1,t22)] λc15=>aI P0 158 [t15,(.agg c15.toArray)] w14 λt24 w16=>L3 [t24] w16)/\(fH 3 1 [(i64 0)] [(0,1,(s3.getD 0 undef))] w8.drew λt20 w17=>(ldW false 1 t21 w17 λx=>x=t22)/\(ldW false 1 t1 w17 λx=>x=t16)/\(ldW false 1 t1 w17 λx=>x=t15)/\aI P0 62 [t16,(i64 1)] w17 λt17 w18=>(ldW false 1 t21 w18 λx=>x=t22)/\(ldW false 1 t1 w18 λx=>x=t15)/\lF false 1 1 t17 λt18=>gJ [(i64 0),(str []),sN,sN,(i64 0)] [(0,1,(i64 10)),(1,1,t18),(2,1,t20),(4,1,t22)] λc19=>aI P0 158 [t15,(.agg c19.toArray)] w18 λt24 w20=>L3 [t24] w20))) (ldW false 1 t1 w8 λt26=>fH 9 1 [(str [])] [(0,1,(str [91]))] w8 λt27 w21=>aI P0 65 [t26,t27] w21 λt28 w22=>aS t28 (cN 3 [(i64 0)] w22 λt5 w23=>cN 4 [(.bool false)] w23 λt6 w24=>stW 1 t5 (i64 0) w24 λw25=>stW 1 t6 (.bool false) w25 λw26=>ldW false 1 t1 w26 λt29=>bA 2 t4 λt30=>ldW false 1 t30 w26 λt31=>aI P0 66 [t29,t31,(.bool true),(.func (.func 227) #[] #[t1,t6,t5])] w26 λt33 w27=>ldW false 1 t6 w27 λt34=>unW .not t34 λt35=>aS t35 (ldW false 1 t1 w27 λt36=>ldW false 1 t5 w27 λt38=>fH 3 2 [(i64 0),(i64 0)] [(0,1,(s3.getD 0 undef)),(1,1,t38)] w27 λt39 w28=>bA 2 t4 λt40=>ldW false 1 t40 w28 λt41=>gJ [(i64 0),(str []),sN,sN,(i64 0)] [(0,1,(i64 11)),(2,1,t39),(4,1,t41)] λc29=>aI P0 158 [t36,(.agg c29.toArray)] w28 λt43 w30=>L3 [t43] w30) (ldW false 1 t1 w27 λt44=>aI P0 157 [t44,(str [46])] w27 λt45 w31=>ldW false 1 t1 w31.drew λt46=>ldW false 1 t1 w31.drew λt47=>bA 2 t4 λt52=>ldW false 1 t52 w31.drew λt53=>(aI P0 62 [t47,(i64 1)] w31.drew λt48 w32=>(ldW false 1 t52 w32 λx=>x=t53)/\(ldW false 1 t1 w32 λx=>x=t46)/\lF false 1 1 t48 λt49=>(ldW false 1 t52 w32 λx=>x=t53)/\(ldW false 1 t1 w32 λx=>x=t46)/\fH 3 1 [(i64 0)] [(0,1,(s3.getD 0 undef))] w32 λt51 w33=>(ldW false 1 t52 w33 λx=>x=t53)/\(ldW false 1 t1 w33 λx=>x=t46)/\gJ [(i64 0),(str []),sN,sN,(i64 0)] [(0,1,(i64 30)),(1,1,t49),(2,1,t51),(4,1,t53)] λc34=>aI P0 158 [t46,(.agg c34.toArray)] w33 λt55 w35=>L3 [t55] w35)/\((ldW false 1 t52 w31.drew λx=>x=t53)/\(ldW false 1 t1 w31.drew λx=>x=t47)/\(ldW false 1 t1 w31.drew λx=>x=t46)/\(aI P0 62 [t47,(i64 1)] w31.drew λt48 w36=>(ldW false 1 t52 w36 λx=>x=t53)/\(ldW false 1 t1 w36 λx=>x=t46)/\lF false 1 1 t48 λt49=>fH 3 1 [(i64 0)] [(0,1,(s3.getD 0 undef))] w36 λt51 w37=>(ldW false 1 t52 w37 λx=>x=t53)/\(ldW false 1 t1 w37 λx=>x=t46)/\gJ [(i64 0),(str []),sN,sN,(i64 0)] [(0,1,(i64 30)),(1,1,t49),(2,1,t51),(4,1,t53)] λc38=>aI P0 158 [t46,(.agg c38.toArray)] w37 λt55 w39=>L3 [t55] w39)/\(fH 3 1 [(i64 0)] [(0,1,(s3.getD 0 undef))] w31.drew λt51 w40=>(ldW false 1 t52 w40 λx=>x=t53)/\(ldW false 1 t1 w40 λx=>x=t47)/\(ldW false 1 t1 w40 λx=>x=t46)/\aI P0 62 [t47,(i64 1)] w40 λt48 w41=>(ldW false 1 t52 w41 λx=>x=t53)/\(ldW false 1 t1 w41 λx=>x=t46)/\lF false 1 1 t48 λt49=>gJ [(i64 0),(str []),sN,sN,(i64 0)] [(0,1,(i64 30)),(1,1,t49),(2,1,t51),(4,1,t53)] λc42=>aI P0 158 [t46,(.agg c42.toArray)] w41 λt55 w43=>L3 [t55] w43)))) (K (s3.getD 0 undef) w22))
theorem PO{K:Q0}(h:Vj v0 w K):aI P0 220 [v0] w K:=
 tie _ 220 Tryz.f220 ND _ w K 1 _ rfl mixed Tryz.func220 (by kernel_rfl) (by kernel_rfl) Tryz.call220 h
def NC:dP:={js:=[(6,⟨[],[2],5⟩),(23005,⟨[50],[],48⟩)],ds:=[(43,⟨[0,1,3,4],[[],[],[1],[1,2],[],[0,1,2,3,4]]⟩),(42,⟨[0,1,2,4],[[],[0],[],[2],[0,1,2,3],[0,1,2,3,4]]⟩),(13,⟨[0,1,2,4],[[],[0],[],[2],[0,1,2,3],[0,1,2,3,4]]⟩)]}
def Vi(v0:Value)(w:World)(K:Q0):=mR 89 v0 w λt1 w1=>ldW false 1 t1 w1 λt6=>aI P0 31 [t6] w1 λt7 w2=>cN 95 zL0 w2 λt3 w3=>stW 3 t3 t7 w3 λw4=>bA 2 t3 λt8=>ldW false 1 t8 w4 λt9=>gJ [(i64 0),(str []),sN,sN,(i64 0)] [(4,1,t9)] λc5=>cN 35 zL1 w4 λt4 w6=>stW 5 t4 (.agg c5.toArray) w6 λw7=>cK (λJ8=>bA 0 t3 λt15=>ldW false 1 t15 w7 λt16=>aO .eql t16 (i64 2) λt17=>aS t17 (ldW false 1 t1 w7 λt18=>dR t18 λt19=>bA 1 t19 λt20=>ldW false 1 t20 w7 λt21=>aO .add t21 (i64 1) λt22=>dR t18 λt23=>bA 1 t23 λt24=>stW 1 t24 t22 w7 λw9=>bA 1 t3 λt25=>ldW false 1 t25 w9.drew λt26=>bA 0 t4 λt27=>stW 1 t27 (i64 4) w9.drew λw10=>(ldW false 1 t25 w10 λx=>x=t26)/\bA 1 t4 λt28=>stW 1 t28 t26 w10 λw11=>J8 [] w11) (bA 0 t3 λt30=>ldW false 1 t30 w7 λt31=>aO .eql t31 (i64 3) λt32=>aS t32 (ldW false 1 t1 w7 λt33=>dR t33 λt34=>bA 1 t34 λt35=>ldW false 1 t35 w7 λt36=>aO .add t36 (i64 1) λt37=>dR t33 λt38=>bA 1 t38 λt39=>stW 1 t39 t37 w7 λw12=>ldW false 1 t1 w12 λt40=>ldW true 3 t3 w12 λt41=>aI P0 232 [t40,t41] w12 λt42 w13=>K t42 w13) (bA 0 t3 λt44=>ldW false 1 t44 w7 λt45=>aO .eql t45 (i64 1) λt46=>GdW (isB t46 true) [undef] w7 (λJ14=>bA 1 t3 λt48=>ldW false 1 t48 w7 λt49=>aO .neq t49 (str [102,111,114]) λt50=>J14 [t50] w7) λs14 _ w15=>eG t46 (s14.getD 0 undef) (.bool false) λt51=>aS t51 (ldW false 1 t1 w15 λt52=>dR t52 λt53=>bA 1 t53 λt54=>ldW false 1 t54 w15 λt55=>aO .add t55 (i64 1) λt56=>dR t52 λt57=>bA 1 t57 λt58=>stW 1 t58 t56 w15 λw16=>ldW false 1 t1 w16 λt59=>fH 9 1 [(str [])] [(0,1,(str [40]))] w16 λt60 w17=>aI P0 65 [t59,t60] w17 λt61 w18=>unW .not t61 λt62=>aS t62 (bA 1 t3 λt63=>ldW false 1 t63 w18 λt64=>aI P0 233 [t64] w18 λt65 w19=>bA 0 t4 λt66=>stW 1 t66 t65 w19 λw20=>bA 0 t4 λt67=>ldW false 1 t67 w20 λt68=>aO .eql t68 (i64 9) λt69=>aS t69 (bA 1 t3 λt70=>ldW false 1 t70 w20 λt71=>bA 1 t4 λt72=>stW 1 t72 t71 w20 λw21=>J8 [] w21) (J8 [] w20)) (bA 1 t3 λt73=>ldW false 1 t73 w18.drew λt74=>bA 0 t4 λt75=>stW 1 t75 (i64 12) w18.drew λw22=>(ldW false 1 t73 w22 λx=>x=t74)/\bA 1 t4 λt76=>stW 1 t76 t74 w22 λw23=>ldW false 1 t1 w23.drew λt77=>ldW false 1 t1 w23.drew λt78=>aI P0 31 [t78] w23.drew λt79 w24=>(ldW false 1 t1 w24 λx=>x=t77)/\lF false 2 1 t79 λt80=>aI P0 66 [t77,t80,(.bool true),(.func (.func 234) #[] #[t1,t4])] w24 λt82 w25=>J8 [] w25)) (ldW false 1 t1 w15 λt84=>fH 9 1 [(str [])] [(0,1,(str [40]))] w15 λt85 w26=>aI P0 65 [t84,t85] w26 λt86 w27=>aS t86 (cN 3 [(i64 0)] w27 λt5 w28=>stW 1 t5 (i64 0) w28 λw29=>ldW false 1 t1 w29 λt87=>bA 2 t3 λt88=>ldW false 1 t88 w29 λt89=>aI P0 66 [t87,t89,(.bool true),(.func (.func 236) #[] #[t1,t5])] w29 λt91 w30=>ldW false 1 t5 w30 λt92=>K t92 w30) (ldW false 1 t1 w27 λt94=>fH 9 1 [(str [])] [(0,1,(str [91]))] w27 λt95 w31=>aI P0 65 [t94,t95] w31 λt96 w32=>aS t96 (ldW false 1 t1 w32 λt97=>bA 2 t3 λt98=>ldW false 1 t98 w32 λt99=>aI P0 66 [t97,t99,(.bool true),(.func (.func 237) #[] #[t1,t3,t4])] w32 λt101 w33=>J8 [] w33) (ldW false 1 t1 w32 λt103=>fH 9 1 [(str [])] [(0,1,(str [123]))] w32 λt104 w34=>aI P0 65 [t103,t104] w34 λt105 w35=>aS t105 (ldW false 1 t1 w35 λt106=>bA 2 t3 λt107=>ldW false 1 t107 w35 λt108=>aI P0 66 [t106,t108,(.bool false),(.func (.func 239) #[] #[t1,t3,t4])] w35 λt110 w36=>J8 [] w36) (bA 2 t3 λt11=>ldW false 1 t11 w35 λt12=>aI P0 33 [(i64 50),t12] w35 λt13 w37=>J8 [] w37))))))) λs8 _ w38=>ldW false 1 t1 w38 λt111=>ldW true 5 t4 w38 λt112=>aI P0 158 [t111,t112] w38 λt113 w39=>K t113 w39
theorem PN{K:Q0}(h:Vi v0 w K):aI P0 226 [v0] w K:=
 tie _ 226 Tryz.f226 NC _ w K 1 _ rfl mixed Tryz.func226 (by kernel_rfl) (by kernel_rfl) Tryz.call226 h
def NB:dP:={js:=[(2,⟨[],[],1⟩)],ds:=[]}
def Vh(v0 v1 v2:Value)(w:World)(K:Q0):=ldW false 1 v0 w λt3=>dR t3 λt4=>bA 1 t4 λt5=>ldW false 1 t5 w λt6=>aO .add t6 (i64 1) λt7=>dR t3 λt8=>bA 1 t8 λt9=>stW 1 t9 t7 w λw1=>cK (λJ2=>ldW false 1 v0 w1 λt10=>aI P0 68 [t10,(str [42])] w1 λt11 w3=>stW 1 v1 t11 w3 λw4=>ldW false 1 v1 w4 λt12=>unW .not t12 λt13=>aS t13 (ldW false 1 v0 w4 λt14=>aI P0 118 [t14] w4 λt15 w5=>stW 1 v2 t15 w5 λw6=>J2 [] w6) (J2 [] w4)) λs2 _ w7=>ldW false 1 v0 w7 λt16=>aI P0 157 [t16,(str [93])] w7 λt17 w8=>K (.tuple #[]) w8
theorem PM{K:Q0}(h:Vh v0 v1 v2 w K):aI P0 227 [v0,v1,v2] w K:=
 tie _ 227 Tryz.f227 NB _ w K 3 _ rfl mixed Tryz.func227 (by kernel_rfl) (by kernel_rfl) Tryz.call227 h
def NA:dP:={js:=[(42,⟨[],[],12⟩),(34,⟨[],[],12⟩),(28,⟨[],[],12⟩),(18,⟨[],[],10⟩),(14,⟨[8,9],[],8⟩)],ds:=[(50,⟨[0,1,2,3,4,5],[[],[],[0,1],[],[],[3,4],[0,1,2],[0,1,2,3,4,5,6]]⟩),(39,⟨[0,1,2,3,4,5,7,8,12],[[],[0],[],[],[],[3,4],[3,4,5],[],[3,4,5,6,7],[2,3,4,5,6,7,8],[2,3,4,5,6,7,8,9],[0,1,2,3,4,5,6,7,8,9,10],[0,1,2,3,4,5,6,7,8,9,10,11],[0,1,2,3,4,5,6,7,8,9,10,11,12]]⟩),(32,⟨[0,1,2,3],[[],[0],[],[2],[0,1],[0,1,2,3,4]]⟩),(15,⟨[0,1,2,3,4],[[],[0],[],[2],[2,3],[],[],[0,1,5,6],[0,1,2,3,4,5,6,7]]⟩),(9,⟨[0,1,2,4,5,6,8],[[],[],[1],[1,2],[],[4],[1,2,3,4,5],[0,1,2,3,4,5,6],[0,1,2,3,4,5,6,7]]⟩)]}
def Vg(v0 v1:Value)(w:World)(K:Q0):=mR 89 v0 w λt2 w1=>mR 95 v1 w1 λt3 w2=>bA 1 t3 λt13=>ldW false 1 t13 w2 λt14=>aI P0 115 [t14] w2 λt15 w3=>iX 0 t15 λt16=>iX 1 t15 λt17=>aO .lss t16 (i64 0) λt19=>aS t19 (ldW false 1 t2 w3.drew λt20=>bA 1 t3 λt21=>ldW false 1 t21 w3.drew λt22=>bA 2 t3 λt24=>ldW false 1 t24 w3.drew λt25=>aI P0 116 [t22] w3.drew λt23 w4=>(ldW false 1 t24 w4 λx=>x=t25)/\(ldW false 1 t2 w4 λx=>x=t20)/\gJ [(i64 0),(str []),sN,sN,(i64 0)] [(0,1,(i64 5)),(1,1,t23),(4,1,t25)] λc5=>aI P0 158 [t20,(.agg c5.toArray)] w4 λt27 w6=>K t27 w6) (bA 2 t3 λt28=>ldW false 1 t28 w3 λt29=>gJ [(i64 0),(str []),sN,sN,(i64 0)] [(0,1,(i64 6)),(4,1,t29)] λc7=>cN 35 zL1 w3 λt7 w8=>stW 5 t7 (.agg c7.toArray) w8 λw9=>cK (λJ10=>bA 1 t3 λt31=>ldW false 1 t31 w9.drew λt32=>bA 2 t3 λt33=>ldW false 1 t33 w9.drew λt34=>aO .add t34 (i64 1) λt35=>(cN 9 [(str [])] w9.drew λt8 w11=>(ldW false 1 t33 w11 λx=>x=t34)/\(ldW false 1 t31 w11 λx=>x=t32)/\cN 3 [(i64 0)] w11 λt9 w12=>(ldW false 1 t33 w12 λx=>x=t34)/\(ldW false 1 t31 w12 λx=>x=t32)/\stW 1 t8 t32 w12 λw13=>(ldW false 1 t33 w13 λx=>x=t34)/\stW 1 t9 t35 w13 λw14=>J10 [t8,t9] w14)/\(cN 3 [(i64 0)] w9.drew λt9 w15=>(ldW false 1 t33 w15 λx=>x=t34)/\(ldW false 1 t31 w15 λx=>x=t32)/\cN 9 [(str [])] w15 λt8 w16=>(ldW false 1 t33 w16 λx=>x=t34)/\(ldW false 1 t31 w16 λx=>x=t32)/\stW 1 t8 t32 w16 λw17=>(ldW false 1 t33 w17 λx=>x=t34)/\stW 1 t9 t35 w17 λw18=>J10 [t8,t9] w18)) λs10 _ w19=>dD [] w19 λs20 _ w21 L20=>ldW false 1 (s10.getD 0 undef) w21 λt36=>aO .neq t36 (str []) λt37=>aS t37 (ldW false 1 (s10.getD 0 undef) w21 λt39=>aI P0 115 [t39] w21 λt40 w22=>iX 0 t40 λt41=>iX 1 t40 λt42=>cN 3 [(i64 0)] w22 λt10 w23=>cN 3 [(i64 0)] w23 λt11 w24=>stW 1 t10 t41 w24 λw25=>stW 1 t11 t42 w25 λw26=>cK (λJ27=>ldW false 1 t10 w26 λt43=>aO .lss t43 (i64 0) λt44=>aS t44 (ldW false 1 (s10.getD 0 undef) w26.drew λt45=>iK t45 λt46=>ldW false 1 (s10.getD 0 undef) w26.drew λt47=>iK t47 λt48=>stW 1 t10 t46 w26.drew λw28=>(ldW false 1 (s10.getD 0 undef) w28 λx=>x=t47)/\stW 1 t11 t48 w28 λw29=>J27 [] w29) (J27 [] w26)) λs27 _ w30=>cK (λJ31=>ldW false 1 t10 w30 λt49=>aO .gtr t49 (i64 0) λt50=>aS t50 (bA 2 t7 λt51=>ldW false 1 t51 w30.drew λt52=>ldW false 1 t2 w30.drew λt53=>ldW false 1 (s10.getD 0 undef) w30.drew λt54=>ldW false 1 t10 w30.drew λt55=>mN t54 none (some t55) λt56=>ldW false 1 (s10.getD 1 undef) w30.drew λt58=>aI P0 116 [t56] w30.drew λt57 w32=>(ldW false 1 (s10.getD 1 undef) w32 λx=>x=t58)/\(ldW false 1 t2 w32 λx=>x=t53)/\(ldW false 1 t51 w32 λx=>x=t52)/\gJ [(i64 0),(str []),sN,sN,(i64 0)] [(0,1,(i64 5)),(1,1,t57),(4,1,t58)] λc33=>aI P0 158 [t53,(.agg c33.toArray)] w32 λt60 w34=>(ldW false 1 t51 w34 λx=>x=t52)/\fH 3 1 [(i64 0)] [(0,1,t60)] w34 λt61 w35=>(ldW false 1 t51 w35 λx=>x=t52)/\fG P0 (Builtin.append_ #[26,26] 26 #[t52,t61]) w35 λt62 w36=>bA 2 t7 λt63=>stW 1 t63 t62 w36 λw37=>bA 3 t7 λt64=>ldW false 1 t64 w37 λt65=>fH 9 1 [(str [])] [(0,1,(str [116]))] w37 λt66 w38=>fG P0 (Builtin.append_ #[33,33] 33 #[t65,t66]) w38 λt67 w39=>bA 3 t7 λt68=>stW 1 t68 t67 w39 λw40=>J31 [] w40) (J31 [] w30)) λs31 _ w41=>cK (λJ42=>ldW false 1 t10 w41 λt69=>ldW false 1 t11 w41 λt70=>aO .lss t69 t70 λt71=>aS t71 (ldW false 1 t2 w41 λt72=>ldW false 1 (s10.getD 1 undef) w41 λt73=>ldW false 1 t10 w41 λt74=>aO .add t73 t74 λt75=>aI P0 66 [t72,t75,(.bool false),(.func (.func 256) #[] #[t7,t2,(s10.getD 0 undef),t10,t11,(s10.getD 1 undef)])] w41 λt77 w43=>bA 3 t7 λt78=>ldW false 1 t78 w43 λt79=>fH 9 1 [(str [])] [(0,1,(str [101]))] w43 λt80 w44=>fG P0 (Builtin.append_ #[33,33] 33 #[t79,t80]) w44 λt81 w45=>bA 3 t7 λt82=>stW 1 t82 t81 w45 λw46=>J42 [] w46) (J42 [] w41)) λs42 _ w47=>ldW false 1 (s10.getD 0 undef) w47.drew λt83=>ldW false 1 t11 w47.drew λt84=>mN t83 (some t84) none λt85=>ldW false 1 (s10.getD 1 undef) w47.drew λt86=>ldW false 1 t11 w47.drew λt87=>aO .add t86 t87 λt88=>stW 1 (s10.getD 0 undef) t85 w47.drew λw48=>(ldW false 1 t11 w48 λx=>x=t87)/\(ldW false 1 (s10.getD 1 undef) w48 λx=>x=t86)/\stW 1 (s10.getD 1 undef) t88 w48 λw49=>L20 [] w49) (ldW false 1 t2 w21 λt89=>ldW true 5 t7 w21 λt90=>aI P0 158 [t89,t90] w21 λt91 w50=>K t91 w50))
theorem PL{K:Q0}(h:Vg v0 v1 w K):aI P0 232 [v0,v1] w K:=
 tie _ 232 Tryz.f232 NA _ w K 2 _ rfl mixed Tryz.func232 (by kernel_rfl) (by kernel_rfl) Tryz.call232 h
def Nz:dP:={js:=[],ds:=[]}
def Vf(v0:Value)(w:World)(K:Q0):=aO .eql v0 (str [110,117,108,108]) λt5=>aS t5 (K (i64 1) w) (aO .eql v0 (str [116,114,117,101]) λt7=>aS t7 (K (i64 2) w) (aO .eql v0 (str [102,97,108,115,101]) λt9=>aS t9 (K (i64 3) w) (K (i64 9) w)))
theorem PK{K:Q0}(h:Vf v0 w K):aI P0 233 [v0] w K:=
 tie _ 233 Tryz.f233 Nz _ w K 1 _ rfl mixed Tryz.func233 (by kernel_rfl) (by kernel_rfl) Tryz.call233 h
def Ny:dP:={js:=[],ds:=[]}
def Ve(v0 v1:Value)(w:World)(K:Q0):=ldW false 1 v0 w λt2=>dR t2 λt3=>bA 1 t3 λt4=>ldW false 1 t4 w λt5=>aO .add t5 (i64 1) λt6=>dR t2 λt7=>bA 1 t7 λt8=>stW 1 t8 t6 w λw1=>ldW false 1 v0 w1 λt9=>aI P0 235 [t9,(str [41])] w1 λt10 w2=>bA 2 v1 λt11=>stW 1 t11 t10 w2 λw3=>K (.tuple #[]) w3
theorem PI{K:Q0}(h:Ve v0 v1 w K):aI P0 234 [v0,v1] w K:=
 tie _ 234 Tryz.f234 Ny _ w K 2 _ rfl mixed Tryz.func234 (by kernel_rfl) (by kernel_rfl) Tryz.call234 h
def Nx:dP:={js:=[(14,⟨[],[],6⟩),(6,⟨[5],[],2⟩)],ds:=[]}
def Vd(v0 v1:Value)(w:World)(K:Q0):=dD [sN] w λs1 _ w2 L1=>aI P0 68 [v0,v1] w2 λt8 w3=>unW .not t8 λt9=>aS t9 (cK (λJ4=>iB (s1.getD 0 undef) λt11=>aO .gtr t11 (i64 0) λt12=>aS t12 (aI P0 157 [v0,(str [44])] w3 λt14 w5=>aI P0 68 [v0,v1] w5 λt17 w6=>aS t17 (K (s1.getD 0 undef) w6) (J4 [] w6)) (J4 [] w3)) λs4 _ w7=>aI P0 118 [v0] w7 λt20 w8=>fH 3 1 [(i64 0)] [(0,1,t20)] w8 λt21 w9=>fG P0 (Builtin.append_ #[26,26] 26 #[(s1.getD 0 undef),t21]) w9 λt22 w10=>L1 [t22] w10) (K (s1.getD 0 undef) w3)
theorem PH{K:Q0}(h:Vd v0 v1 w K):aI P0 235 [v0,v1] w K:=
 tie _ 235 Tryz.f235 Nx _ w K 2 _ rfl mixed Tryz.func235 (by kernel_rfl) (by kernel_rfl) Tryz.call235 h
def Nw:dP:={js:=[],ds:=[]}
def Vb(v0 v1:Value)(w:World)(K:Q0):=ldW false 1 v0 w λt2=>dR t2 λt3=>bA 1 t3 λt4=>ldW false 1 t4 w λt5=>aO .add t5 (i64 1) λt6=>dR t2 λt7=>bA 1 t7 λt8=>stW 1 t8 t6 w λw1=>ldW false 1 v0 w1 λt9=>aI P0 118 [t9] w1 λt10 w2=>stW 1 v1 t10 w2 λw3=>ldW false 1 v0 w3 λt11=>aI P0 157 [t11,(str [41])] w3 λt12 w4=>K (.tuple #[]) w4
theorem PG{K:Q0}(h:Vb v0 v1 w K):aI P0 236 [v0,v1] w K:=
 tie _ 236 Tryz.f236 Nw _ w K 2 _ rfl mixed Tryz.func236 (by kernel_rfl) (by kernel_rfl) Tryz.call236 h
def Nv:dP:={js:=[],ds:=[]}
def Va(v0 v1 v2:Value)(w:World)(K:Q0):=ldW false 1 v0 w λt3=>ldW true 3 v1 w λt4=>aI P0 238 [t3,t4] w λt5 w1=>stW 5 v2 t5 w1 λw2=>K (.tuple #[]) w2
theorem PF{K:Q0}(h:Va v0 v1 v2 w K):aI P0 237 [v0,v1,v2] w K:=
 tie _ 237 Tryz.f237 Nv _ w K 3 _ rfl mixed Tryz.func237 (by kernel_rfl) (by kernel_rfl) Tryz.call237 h
def Nu:dP:={js:=[(18,⟨[],[],7⟩),(16,⟨[6],[],5⟩),(8004,⟨[23],[],21⟩)],ds:=[(31,⟨[0,1,2,6],[[],[0],[],[2],[2,3],[0,1,2,3,4],[0,1,2,3,4,5],[0,1,2,3,4,5,6]]⟩),(27,⟨[0,1,2,6],[[],[0],[],[2],[2,3],[0,1,2,3,4],[0,1,2,3,4,5],[0,1,2,3,4,5,6]]⟩),(17,⟨[0,2,3,4,5],[[],[0],[0,1],[],[3],[0,1,2,3,4],[],[0,1,2,3,4,5,6]]⟩),(11,⟨[0,2,3,4],[[],[0],[],[2],[0,1,2,3],[0,1,2,3,4]]⟩)]}
def UZ(v0 v1:Value)(w:World)(K:Q0):=mR 95 v1 w λt3 w1=>cN 35 zL1 w1 λt4 w2=>dR v0 λt9=>bA 1 t9 λt10=>ldW false 1 t10 w2 λt11=>aO .add t11 (i64 1) λt12=>dR v0 λt13=>bA 1 t13 λt14=>stW 1 t14 t12 w2 λw3=>aI P0 31 [v0] w3 λt16 w4=>cN 95 zL0 w4 λt5 w5=>stW 3 t5 t16 w5 λw6=>bA 0 t5 λt17=>ldW false 1 t17 w6 λt18=>aO .neq t18 (i64 1) λt19=>GdW (isB t19 false) [undef] w6 (λJ7=>bA 1 t5 λt21=>ldW false 1 t21 w6 λt22=>aO .neq t22 (str [102,111,114]) λt23=>J7 [t23] w6) λs7 _ w8=>eG t19 (.bool true) (s7.getD 0 undef) λt24=>aS t24 (bA 2 t3 λt27=>ldW false 1 t27 w8.drew λt28=>aI P0 235 [v0,(str [93])] w8.drew λt26 w9=>(ldW false 1 t27 w9 λx=>x=t28)/\gJ [(i64 0),(str []),sN,sN,(i64 0)] [(0,1,(i64 7)),(2,1,t26),(4,1,t28)] λc10=>stW 5 t4 (.agg c10.toArray) w9 λw11=>ldW true 5 t4 w11 λr12=>K r12 w11) (dR v0 λt31=>bA 1 t31 λt32=>ldW false 1 t32 w8 λt33=>aO .add t33 (i64 1) λt34=>dR v0 λt35=>bA 1 t35 λt36=>stW 1 t36 t34 w8 λw13=>cK (λJ14=>bA 2 t3 λt40=>ldW false 1 t40 w13.drew λt41=>(aI P0 62 [v0,(i64 1)] w13.drew λt38 w15=>(ldW false 1 t40 w15 λx=>x=t41)/\lF false 1 1 t38 λt39=>gJ [(i64 0),(str []),sN,sN,(i64 0)] [(0,1,(i64 29)),(1,1,t39),(4,1,t41)] λc16=>cN 35 zL1 w15 λt6 w17=>(ldW false 1 t40 w17 λx=>x=t41)/\stW 5 t6 (.agg c16.toArray) w17 λw18=>J14 [t6] w18)/\(cN 35 zL1 w13.drew λt6 w19=>(ldW false 1 t40 w19 λx=>x=t41)/\aI P0 62 [v0,(i64 1)] w19 λt38 w20=>(ldW false 1 t40 w20 λx=>x=t41)/\lF false 1 1 t38 λt39=>gJ [(i64 0),(str []),sN,sN,(i64 0)] [(0,1,(i64 29)),(1,1,t39),(4,1,t41)] λc21=>stW 5 t6 (.agg c21.toArray) w20 λw22=>J14 [t6] w22)) λs14 _ w23=>cK (λJ24=>aI P0 62 [v0,(i64 1)] w23 λt44 w25=>cN 95 zL0 w25 λt7 w26=>stW 3 t7 t44 w26 λw27=>bA 1 t7 λt45=>ldW false 1 t45 w27 λt46=>aO .neq t46 (str [105,110]) λt47=>aS t47 (bA 2 t7 λt48=>ldW false 1 t48 w27 λt49=>aI P0 33 [(i64 50),t49] w27 λt50 w28=>J24 [] w28) (J24 [] w27)) λs24 _ w29=>bA 2 (s14.getD 0 undef) λt51=>ldW false 1 t51 w29.drew λt52=>aI P0 118 [v0] w29.drew λt54 w30=>(ldW false 1 t51 w30 λx=>x=t52)/\fH 3 1 [(i64 0)] [(0,1,t54)] w30 λt55 w31=>(ldW false 1 t51 w31 λx=>x=t52)/\fG P0 (Builtin.append_ #[26,26] 26 #[t52,t55]) w31 λt56 w32=>bA 2 (s14.getD 0 undef) λt57=>stW 1 t57 t56 w32 λw33=>aI P0 157 [v0,(str [58])] w33 λt59 w34=>bA 2 (s14.getD 0 undef) λt60=>ldW false 1 t60 w34.drew λt61=>aI P0 118 [v0] w34.drew λt63 w35=>(ldW false 1 t60 w35 λx=>x=t61)/\fH 3 1 [(i64 0)] [(0,1,t63)] w35 λt64 w36=>(ldW false 1 t60 w36 λx=>x=t61)/\fG P0 (Builtin.append_ #[26,26] 26 #[t61,t64]) w36 λt65 w37=>bA 2 (s14.getD 0 undef) λt66=>stW 1 t66 t65 w37 λw38=>aI P0 157 [v0,(str [93])] w38 λt68 w39=>ldW true 5 (s14.getD 0 undef) w39 λt69=>stW 5 t4 t69 w39 λw40=>ldW true 5 t4 w40 λr41=>K r41 w40)
theorem PD{K:Q0}(h:UZ v0 v1 w K):aI P0 238 [v0,v1] w K:=
 tie _ 238 Tryz.f238 Nu _ w K 2 _ rfl mixed Tryz.func238 (by kernel_rfl) (by kernel_rfl) Tryz.call238 h
def Nt:dP:={js:=[],ds:=[]}
def UY(v0 v1 v2:Value)(w:World)(K:Q0):=ldW false 1 v0 w λt3=>ldW true 3 v1 w λt4=>aI P0 240 [t3,t4] w λt5 w1=>stW 5 v2 t5 w1 λw2=>K (.tuple #[]) w2
theorem PC{K:Q0}(h:UY v0 v1 v2 w K):aI P0 239 [v0,v1,v2] w K:=
 tie _ 239 Tryz.f239 Nt _ w K 3 _ rfl mixed Tryz.func239 (by kernel_rfl) (by kernel_rfl) Tryz.call239 h
def Ns:dP:={js:=[(43,⟨[],[],6⟩),(45005,⟨[74],[],71⟩),(45011,⟨[68],[],65⟩),(33,⟨[],[],7⟩),(20,⟨[],[],7⟩),(10,⟨[],[],6⟩)],ds:=[(42,⟨[0,1,2,3,6,7,8,12,14],[[],[0],[],[2],[2,3],[0,1,2,3,4],[],[6],[],[0,1,2,3,4,5,8],[0,1,2,3,4,5,8,9],[0,1,2,3,4,5,6,7,8,9,10],[0,1,2,3,4,5,6,7],[0,1,2,3,4,5,6,7,8,9,10,11,12],[0,1,2,3,4,5,6,7,8,9,10,11,12,13],[0,1,2,3,4,5,6,7,8,9,10,11,12,13,14]]⟩)]}
def UX(v0 v1:Value)(w:World)(K:Q0):=mR 95 v1 w λt3 w1=>cN 35 zL1 w1 λt4 w2=>dR v0 λt8=>bA 1 t8 λt9=>ldW false 1 t9 w2 λt10=>aO .add t10 (i64 1) λt11=>dR v0 λt12=>bA 1 t12 λt13=>stW 1 t13 t11 w2 λw3=>bA 2 t3 λt14=>ldW false 1 t14 w3 λt15=>gJ [(i64 0),(str []),sN,sN,(i64 0)] [(0,1,(i64 8)),(4,1,t15)] λc4=>cN 35 zL1 w3 λt5 w5=>stW 5 t5 (.agg c4.toArray) w5 λw6=>aI P0 30 [v0] w6 λt18 w7=>dD [] w7 λs8 _ w9 L8=>aI P0 68 [v0,(str [125])] w9 λt20 w10=>unW .not t20 λt21=>aS t21 (aI P0 64 [v0] w10 λt23 w11=>cN 95 zL0 w11 λt6 w12=>stW 3 t6 t23 w12 λw13=>cK (λJ14=>bA 0 t6 λt24=>ldW false 1 t24 w13 λt25=>aO .eql t25 (i64 3) λt30=>aS t30 (ldW true 3 t6 w13 λt32=>aI P0 63 [v0,t32] w13 λt33 w15=>bA 1 t6 λt34=>stW 1 t34 t33 w15 λw16=>J14 [] w16) (aO .eql t25 (i64 1) λt36=>aS t36 (J14 [] w13) (bA 2 t6 λt26=>ldW false 1 t26 w13 λt27=>aI P0 33 [(i64 50),t27] w13 λt28 w17=>J14 [] w17))) λs14 _ w18=>cK (λJ19=>bA 3 t5 λt37=>ldW false 1 t37 w18 λt38=>bA 1 t6 λt39=>ldW false 1 t39 w18 λt40=>aI P0 117 [t38,t40] w18 λt41 w20=>aS t41 (bA 2 t6 λt42=>ldW false 1 t42 w20 λt43=>aI P0 33 [(i64 2),t43] w20 λt44 w21=>J19 [] w21) (J19 [] w20)) λs19 _ w22=>aI P0 157 [v0,(str [61])] w22 λt46 w23=>bA 3 t5 λt47=>ldW false 1 t47 w23.drew λt48=>bA 1 t6 λt49=>ldW false 1 t49 w23.drew λt50=>bA 2 t5 λt53=>ldW false 1 t53 w23.drew λt54=>fH 9 1 [(str [])] [(0,1,t50)] w23.drew λt51 w24=>(ldW false 1 t53 w24 λx=>x=t54)/\(ldW false 1 t47 w24 λx=>x=t48)/\fG P0 (Builtin.append_ #[33,33] 33 #[t48,t51]) w24 λt52 w25=>(ldW false 1 t53 w25 λx=>x=t54)/\bA 3 t5 λt59=>aI P0 118 [v0] w25 λt56 w26=>(ldW false 1 t53 w26 λx=>x=t54)/\fH 3 1 [(i64 0)] [(0,1,t56)] w26 λt57 w27=>(ldW false 1 t53 w27 λx=>x=t54)/\fG P0 (Builtin.append_ #[26,26] 26 #[t54,t57]) w27 λt58 w28=>stW 1 t59 t52 w28 λw29=>bA 2 t5 λt60=>stW 1 t60 t58 w29 λw30=>cK (λJ31=>aI P0 68 [v0,(str [44])] w30 λt62 w32=>unW .not t62 λt63=>GdW (isB t63 true) [undef] w32 (λJ33=>aI P0 31 [v0] w32 λt66 w34=>lF false 0 1 t66 λt67=>aO .neq t67 (i64 5) λt68=>J33 [t68] w34) λs33 _ w35=>eG t63 (s33.getD 0 undef) (.bool false) λt69=>GdW (isB t69 true) [undef] w35 (λJ36=>fH 9 1 [(str [])] [(0,1,(str [125]))] w35 λt72 w37=>aI P0 65 [v0,t72] w37 λt73 w38=>unW .not t73 λt74=>J36 [t74] w38) λs36 _ w39=>eG t69 (s36.getD 0 undef) (.bool false) λt75=>aS t75 (aI P0 31 [v0] w39 λt77 w40=>lF false 2 1 t77 λt78=>aI P0 33 [(i64 50),t78] w40 λt79 w41=>J31 [] w41) (J31 [] w39)) λs31 _ w42=>aI P0 30 [v0] w42 λt81 w43=>L8 [] w43) (ldW true 5 t5 w10 λt82=>stW 5 t4 t82 w10 λw44=>ldW true 5 t4 w44 λr45=>K r45 w44)
theorem Pz{K:Q0}(h:UX v0 v1 w K):aI P0 240 [v0,v1] w K:=
 tie _ 240 Tryz.f240 Ns _ w K 2 _ rfl mixed Tryz.func240 (by kernel_rfl) (by kernel_rfl) Tryz.call240 h
def Nr:dP:={js:=[],ds:=[(0,⟨[0,1,2,3,4,5,6,7,8,9,10,11,12,16],[[],[0],[],[],[],[4],[],[6],[3,4,5,6,7],[],[],[9,10],[9,10,11],[2,3,4,5,6,7,8,9,10,11,12],[2,3,4,5,6,7,8,9,10,11,12,13],[0,1,2,3,4,5,6,7,8,9,10,11,12,13,14],[0,1,2,3,4,5,6,7,8,9,10,11,12,13,14,15],[0,1,2,3,4,5,6,7,8,9,10,11,12,13,14,15,16]]⟩)]}
def UW(v0 v1 v2 v3 v4 v5:Value)(w:World)(K:Q0):=bA 2 v0 λt6=>ldW false 1 t6 w.drew λt7=>ldW false 1 v1 w.drew λt8=>ldW false 1 v2 w.drew λt9=>ldW false 1 v3 w.drew λt10=>aO .add t10 (i64 2) λt11=>ldW false 1 v4 w.drew λt12=>aO .sub t12 (i64 1) λt13=>mN t9 (some t11) (some t13) λt14=>ldW false 1 v5 w.drew λt15=>ldW false 1 v3 w.drew λt16=>aO .add t15 t16 λt17=>aO .add t17 (i64 2) λt18=>aI P0 257 [t8,t14,t18] w.drew λt19 w1=>(ldW false 1 t6 w1 λx=>x=t7)/\fH 3 1 [(i64 0)] [(0,1,t19)] w1 λt20 w2=>(ldW false 1 t6 w2 λx=>x=t7)/\fG P0 (Builtin.append_ #[26,26] 26 #[t7,t20]) w2 λt21 w3=>bA 2 v0 λt22=>stW 1 t22 t21 w3 λw4=>K (.tuple #[]) w4
theorem Py{K:Q0}(h:UW v0 v1 v2 v3 v4 v5 w K):aI P0 256 [v0,v1,v2,v3,v4,v5] w K:=
 tie _ 256 Tryz.f256 Nr _ w K 6 _ rfl mixed Tryz.func256 (by kernel_rfl) (by kernel_rfl) Tryz.call256 h
def Nq:dP:={js:=[(4,⟨[],[],8⟩)],ds:=[(11,⟨[0,1,2,3,4,5,6,7,8,9,10,12],[[],[],[],[2],[2,3],[2,3,4],[],[6],[6,7],[6,7,8],[0,1,2,3,4,5,6,7,8,9],[0,1,2,3,4,5,6,7,8,9,10],[0,1,2,3,4,5,6,7,8,9,10,11]]⟩),(8,⟨[0,1,2,3,4,5,6,7,8,9],[[],[0],[0,1],[0,1,2],[],[],[5],[5,6],[5,6,7],[4,5,6,7,8],[0,1,2,3,4,5,6,7,8,9]]⟩)]}
def UV(v0 v1 v2:Value)(w:World)(K:Q0):=aI P0 28 [v1] w λt13 w1=>iX 0 t13 λt14=>iX 1 t13 λt15=>cK (λJ2=>eqW .ptr true t15 (.pointer none) λt17=>aS t17 (dR t15 λt19=>bA 0 t19 λt20=>ldW false 1 t20 w1.drew λt21=>dR t15 λt24=>bA 2 t24 λt25=>ldW false 1 t25 w1.drew λt26=>aO .add v2 t26 λt27=>aI P0 33 [t21,t27] w1.drew λt28 w3=>J2 [] w3) (J2 [] w1)) λs2 _ w4=>dR v0 λt32=>bA 3 t32 λt33=>ldW false 1 t33 w4.drew λt34=>dR v0 λt36=>bA 4 t36 λt37=>ldW false 1 t37 w4.drew λt38=>gJ [sN,(i64 0),(i64 0),(.pointer none),(i64 0),(.bool false)] [(0,1,t14),(2,1,v2),(3,1,t34),(4,1,t38)] λc5=>mR 92 (.agg c5.toArray) w4.drew λt40 w6=>aI P0 118 [t40] w6 λt42 w7=>aI P0 62 [t40,(i64 0)] w7 λt44 w8=>K t42 w8
theorem Px{K:Q0}(h:UV v0 v1 v2 w K):aI P0 257 [v0,v1,v2] w K:=
 tie _ 257 Tryz.f257 Nq _ w K 3 _ rfl mixed Tryz.func257 (by kernel_rfl) (by kernel_rfl) Tryz.call257 h
def Sz:dP:={js:=[(8,⟨[9],[5],9⟩)],ds:=[]}
def W16(v0:Value)(w:World)(K:Q0):=mR 28 v0 w λt1 w1=>cN 114 zL3 w1 λt3 w2=>bA 2 t1 λt6=>ldW false 1 t6 w2 λt7=>iB t7 λt8=>dD [(i64 0)] w2 λs3 _ w4 L3=>aO .lss (s3.getD 0 undef) t8 λt10=>aS t10 (fO none 1 t7 (s3.getD 0 undef) λt11=>ldW false 1 t11 w4 λt12=>ldW true 3 t1 w4 λt13=>aI P0 43 [t3,t13,t12,(i64 0)] w4 λt15 w5=>aO .add (s3.getD 0 undef) (i64 1) λt16=>L3 [t16] w5) (aI P0 44 [t3] w4 λt17 w6=>K t17 w6)
theorem TZ{K:Q0}(h:W16 v0 w K):aI P0 16 [v0] w K:=
 tie _ 16 Tryz.f16 Sz _ w K 1 _ rfl mixed Tryz.func16 (by kernel_rfl) (by kernel_rfl) Tryz.call16 h
def Sq:dP:={js:=[(63,⟨[64],[],58⟩),(31,⟨[9],[9],29⟩),(18,⟨[6,28],[6,7,8,9],28⟩),(4006,⟨[18],[],14⟩)],ds:=[(147,⟨[0,1,2,3,4,5,6,8,9,10,11,12,13,14,15],[[],[0],[0,1],[0,1,2],[0,1,2,3],[],[5],[5,6],[0,1,2,3,4,5,6,7],[0,1,2,3,4,5,6,7,8],[],[10],[10,11],[0,1,2,3,4,5,6,7,8,9,10,11,12],[0,1,2,3,4,5,6,7,8,9,10,11,12,13],[0,1,2,3,4,5,6,7,8,9,10,11,12,13,14]]⟩),(143,⟨[0,1,2,3,4,5,6,7,8,9,10,11,12,13,14],[[],[0],[0,1],[0,1,2],[],[4],[4,5],[0,1,2,3,4,5,6],[0,1,2,3,4,5,6,7],[],[9],[9,10],[0,1,2,3,4,5,6,7,8,9,10,11],[0,1,2,3,4,5,6,7,8,9,10,11,12],[0,1,2,3,4,5,6,7,8,9,10,11,12,13]]⟩),(137,⟨[0,1,2,3,4,5,6,7,8,9,10,11,12,13,14,15],[[],[0],[0,1],[0,1,2],[0,1,2,3],[],[5],[5,6],[0,1,2,3,4,5,6,7],[0,1,2,3,4,5,6,7,8],[],[10],[10,11],[0,1,2,3,4,5,6,7,8,9,10,11,12],[0,1,2,3,4,5,6,7,8,9,10,11,12,13],[0,1,2,3,4,5,6,7,8,9,10,11,12,13,14]]⟩),(113,⟨[0,1,2,3,4,5,6,7,8,9,10],[[],[0],[0,1],[0,1,2],[0,1,2,3],[],[5],[5,6],[0,1,2,3,4,5,6,7],[0,1,2,3,4,5,6,7,8],[0,1,2,3,4,5,6,7,8,9]]⟩),(107,⟨[0,1,2,3,4,5,6,7,8],[[],[0],[0,1],[0,1,2],[0,1,2,3],[],[5],[0,1,2,3,4,5,6],[0,1,2,3,4,5,6,7]]⟩),(101,⟨[0,1,2,3,4,5,6,7,8],[[],[0],[0,1],[0,1,2],[0,1,2,3],[],[5],[0,1,2,3,4,5,6],[0,1,2,3,4,5,6,7]]⟩)]}
def W42(v0 v1:Value)(w:World)(K:Q0):=mR 28 v0 w λt2 w1=>aO .lss v1 (i64 0) λt12=>GdW (isB t12 false) [undef] w1 (λJ2=>bA 0 t2 λt15=>ldW false 1 t15 w1 λt16=>iB t16 λt17=>aO .geq v1 t17 λt18=>J2 [t18] w1) λs2 _ w3=>eG t12 (.bool true) (s2.getD 0 undef) λt19=>aS t19 (K (str []) w3) (bA 0 t2 λt20=>ldW false 1 t20 w3 λt21=>fO none 5 t21 v1 λt23=>ldW true 5 t23 w3 λt24=>cN 35 zL1 w3 λt5 w4=>stW 5 t5 t24 w4 λw5=>bA 2 t5 λt25=>ldW false 1 t25 w5 λt26=>iB t26 λt27=>dD [sN,(i64 0)] w5 λs6 _ w7 L6=>aO .lss (s6.getD 1 undef) t27 λt29=>aS t29 (fO none 1 t26 (s6.getD 1 undef) λt31=>ldW false 1 t31 w7 λt32=>ldW true 3 t2 w7 λt33=>aI P0 42 [t33,t32] w7 λt35 w8=>cK (λJ9=>bA 0 t5 λt36=>ldW false 1 t36 w8 λt37=>aO .eql t37 (i64 8) λt38=>aS t38 (bA 3 t5 λt39=>ldW false 1 t39 w8 λt40=>fO none 1 t40 (s6.getD 1 undef) λt42=>ldW false 1 t42 w8 λt43=>aI P0 83 [t43] w8 λt44 w10=>aO .add (str [34]) t44 λt45=>aO .add t45 (str [34,32,61,32]) λt46=>aO .add t46 t35 λt48=>J9 [t48] w10) (J9 [t35] w8)) λs9 _ w11=>fH 9 1 [(str [])] [(0,1,(s9.getD 0 undef))] w11 λt51 w12=>fG P0 (Builtin.append_ #[33,33] 33 #[(s6.getD 0 undef),t51]) w12 λt52 w13=>aO .add (s6.getD 1 undef) (i64 1) λt53=>L6 [t52,t53] w13) (aI P0 84 [(s6.getD 0 undef),(str [44,32])] w7 λt55 w14=>bA 0 t5 λt56=>ldW false 1 t56 w14 λt57=>aO .eql t57 (i64 1) λt59=>aS t59 (K (str [110,117,108,108]) w14) (aO .eql t57 (i64 2) λt61=>aS t61 (K (str [116,114,117,101]) w14) (aO .eql t57 (i64 3) λt63=>aS t63 (K (str [102,97,108,115,101]) w14) (cK (λJ15=>aO .eql t57 (i64 4) λt65=>aS t65 (J15 [t65] w14) (aO .eql t57 (i64 9) λt66=>J15 [t66] w14)) λs15 _ w16=>aS (s15.getD 0 undef) (bA 1 t5 λt67=>ldW false 1 t67 w16 λt68=>K t68 w16) (aO .eql t57 (i64 5) λt70=>aS t70 (bA 1 t5 λt71=>ldW false 1 t71 w16 λt72=>aI P0 83 [t72] w16 λt73 w17=>aO .add (str [34]) t73 λt74=>aO .add t74 (str [34]) λt75=>K t75 w17) (aO .eql t57 (i64 6) λt77=>aS t77 (ldW true 3 t2 w16 λt78=>ldW true 5 t5 w16 λt79=>aI P0 85 [t78,t79,(s6.getD 0 undef)] w16 λt81 w18=>K t81 w18) (aO .eql t57 (i64 7) λt83=>aS t83 (aO .add (str [91]) t55 λt85=>aO .add t85 (str [93]) λt86=>K t86 w16) (aO .eql t57 (i64 8) λt88=>aS t88 (aO .add (str [123]) t55 λt90=>aO .add t90 (str [125]) λt91=>K t91 w16) (aO .eql t57 (i64 10) λt93=>aS t93 (fO none 1 (s6.getD 0 undef) (i64 0) λt95=>ldW false 1 t95 w16.drew λt96=>aO .add (str [40]) t96 λt97=>aO .add t97 (str [41,46]) λt98=>bA 1 t5 λt99=>ldW false 1 t99 w16.drew λt100=>aO .add t98 t100 λt101=>K t101 w16.drew) (aO .eql t57 (i64 30) λt103=>aS t103 (fO none 1 (s6.getD 0 undef) (i64 0) λt105=>ldW false 1 t105 w16.drew λt106=>aO .add (str [40]) t106 λt107=>aO .add t107 (str [41,91,42,93,46]) λt108=>bA 1 t5 λt109=>ldW false 1 t109 w16.drew λt110=>aO .add t108 t110 λt111=>K t111 w16.drew) (aO .eql t57 (i64 11) λt113=>aS t113 (fO none 1 (s6.getD 0 undef) (i64 0) λt115=>ldW false 1 t115 w16.drew λt116=>aO .add (str [40]) t116 λt117=>aO .add t117 (str [41,91]) λt118=>fO none 1 (s6.getD 0 undef) (i64 1) λt120=>ldW false 1 t120 w16.drew λt121=>aO .add t118 t121 λt122=>aO .add t122 (str [93]) λt123=>K t123 w16.drew) (aO .eql t57 (i64 12) λt125=>aS t125 (bA 1 t5 λt126=>ldW false 1 t126 w16 λt127=>aO .add t127 (str [40]) λt128=>aO .add t128 t55 λt130=>aO .add t130 (str [41]) λt131=>K t131 w16) (aO .eql t57 (i64 13) λt133=>aS t133 (aO .add (str [40,45]) t55 λt135=>aO .add t135 (str [41]) λt136=>K t136 w16) (aO .eql t57 (i64 14) λt138=>aS t138 (aO .add (str [40,33]) t55 λt140=>aO .add t140 (str [41]) λt141=>K t141 w16) (aO .eql t57 (i64 28) λt143=>aS t143 (fO none 1 (s6.getD 0 undef) (i64 0) λt145=>ldW false 1 t145 w16.drew λt146=>aO .add (str [40]) t146 λt147=>aO .add t147 (str [32,63,32]) λt148=>fO none 1 (s6.getD 0 undef) (i64 1) λt150=>ldW false 1 t150 w16.drew λt151=>aO .add t148 t151 λt152=>aO .add t152 (str [32,58,32]) λt153=>fO none 1 (s6.getD 0 undef) (i64 2) λt155=>ldW false 1 t155 w16.drew λt156=>aO .add t153 t156 λt157=>aO .add t157 (str [41]) λt158=>K t158 w16.drew) (aO .eql t57 (i64 29) λt160=>aS t160 (bA 1 t5 λt161=>ldW false 1 t161 w16.drew λt162=>aO .add (str [91,102,111,114,32]) t162 λt163=>aO .add t163 (str [32,105,110,32]) λt164=>fO none 1 (s6.getD 0 undef) (i64 0) λt166=>ldW false 1 t166 w16.drew λt167=>aO .add t164 t167 λt168=>aO .add t168 (str [32,58,32]) λt169=>fO none 1 (s6.getD 0 undef) (i64 1) λt171=>ldW false 1 t171 w16.drew λt172=>aO .add t169 t172 λt173=>aO .add t173 (str [93]) λt174=>K t174 w16.drew) (fO none 1 (s6.getD 0 undef) (i64 0) λt176=>ldW false 1 t176 w16.drew λt177=>aO .add (str [40]) t177 λt178=>aO .add t178 (str [32]) λt179=>bA 0 t5 λt180=>ldW false 1 t180 w16.drew λt181=>fO none 1 (s6.getD 0 undef) (i64 1) λt186=>ldW false 1 t186 w16.drew λt187=>aI P0 86 [t181] w16.drew λt182 w19=>(ldW false 1 t186 w19 λx=>x=t187)/\(ldW false 1 t176 w19 λx=>x=t177)/\aO .add t179 t182 λt183=>aO .add t183 (str [32]) λt184=>aO .add t184 t187 λt188=>aO .add t188 (str [41]) λt189=>K t189 w19))))))))))))))))))
theorem TN{K:Q0}(h:W42 v0 v1 w K):aI P0 42 [v0,v1] w K:=
 tie _ 42 Tryz.f42 Sq _ w K 2 _ rfl mixed Tryz.func42 (by kernel_rfl) (by kernel_rfl) Tryz.call42 h
def Sp:dP:={js:=[(48,⟨[70],[15],70⟩),(31,⟨[48],[13],48⟩),(12,⟨[32],[11],32⟩)],ds:=[(42,⟨[0,1,2,3,4,5,6,7,8,9,11,12],[[],[],[1],[],[3],[1,2,3,4],[1,2,3,4,5],[],[],[8],[7,8,9],[1,2,3,4,5,6,7,8,9,10],[1,2,3,4,5,6,7,8,9,10,11],[0,1,2,3,4,5,6,7,8,9,10,11,12]]⟩)]}
def W43(v0 v1 v2 v3:Value)(w:World)(K:Q0):=mR 28 v1 w λt5 w1=>bA 1 t5 λt16=>ldW false 1 t16 w1 λt17=>fO none 5 t17 v2 λt19=>ldW true 5 t19 w1 λt20=>cN 38 zL2 w1 λt8 w2=>stW 5 t8 t20 w2 λw3=>aI P0 87 [(str [32,32]),v3] w3 λt22 w4=>bA 0 t8 λt25=>ldW false 1 t25 w4 λt26=>aO .add t22 t26 λt27=>aI P0 88 [v0,t27] w4 λt28 w5=>bA 1 t8 λt29=>ldW false 1 t29 w5 λt30=>iB t30 λt31=>dD [(i64 0)] w5 λs6 _ w7 L6=>aO .lss (s6.getD 0 undef) t31 λt33=>aS t33 (fO none 1 t30 (s6.getD 0 undef) λt34=>ldW false 1 t34 w7 λt35=>aI P0 83 [t35] w7 λt38 w8=>aO .add (str [32,34]) t38 λt39=>aO .add t39 (str [34]) λt40=>aI P0 88 [v0,t40] w8 λt41 w9=>aO .add (s6.getD 0 undef) (i64 1) λt42=>L6 [t42] w9) (aI P0 88 [v0,(str [32,123,10])] w7 λt44 w10=>bA 2 t8 λt45=>ldW false 1 t45 w10 λt46=>iB t46 λt47=>dD [(i64 0)] w10 λs11 _ w12 L11=>aO .lss (s11.getD 0 undef) t47 λt49=>aS t49 (fO none 3 t46 (s11.getD 0 undef) λt50=>ldW true 3 t50 w12 λt51=>cN 40 [(str []),(i64 0),(i64 0)] w12 λt13 w13=>stW 3 t13 t51 w13 λw14=>aO .add t22 (str [32,32]) λt54=>bA 0 t13 λt55=>ldW false 1 t55 w14.drew λt56=>aO .add t54 t56 λt57=>aO .add t57 (str [32,61,32]) λt58=>ldW true 3 t5 w14.drew λt59=>bA 1 t13 λt60=>ldW false 1 t60 w14.drew λt61=>aI P0 42 [t59,t61] w14.drew λt62 w15=>(ldW false 1 t55 w15 λx=>x=t56)/\aO .add t58 t62 λt63=>aO .add t63 (str [10]) λt64=>aI P0 88 [v0,t64] w15 λt65 w16=>aO .add (s11.getD 0 undef) (i64 1) λt66=>L11 [t66] w16) (bA 3 t8 λt67=>ldW false 1 t67 w12 λt68=>iB t68 λt69=>dD [(i64 0)] w12 λs17 _ w18 L17=>aO .lss (s17.getD 0 undef) t69 λt71=>aS t71 (fO none 1 t68 (s17.getD 0 undef) λt72=>ldW false 1 t72 w18 λt73=>ldW true 3 t5 w18 λt75=>aO .add v3 (i64 1) λt78=>aI P0 43 [v0,t75,t73,t78] w18 λt79 w19=>aO .add (s17.getD 0 undef) (i64 1) λt80=>L17 [t80] w19) (aO .add t22 (str [125,10]) λt83=>aI P0 88 [v0,t83] w18 λt84 w20=>K (.tuple #[]) w20)))
theorem TM{K:Q0}(h:W43 v0 v1 v2 v3 w K):aI P0 43 [v0,v1,v2,v3] w K:=
 tie _ 43 Tryz.f43 Sp _ w K 4 _ rfl mixed Tryz.func43 (by kernel_rfl) (by kernel_rfl) Tryz.call43 h
def RY:dP:={js:=[(18,⟨[5],[5],8⟩),(22,⟨[12],[],12⟩),(8,⟨[],[5],8⟩)],ds:=[]}
def W83(v0:Value)(w:World)(K:Q0):=cN 114 zL3 w λt3 w1=>fG P0 (Instr.range 9 v0) w1 λt7 w2=>dD [] w2 λs3 _ w4 L3=>fG P0 (Instr.next t7 true 0) w4 λt8 w5=>iX 0 t8 λt9=>aS t9 (iX 2 t8 λt10=>cK (λJ6=>cK (λJ7=>aO .eql t10 (.int .i32 92) λt13=>aS t13 (J7 [t13] w5) (aO .eql t10 (.int .i32 34) λt14=>aS t14 (J7 [t14] w5) (aO .eql t10 (.int .i32 36) λt15=>J7 [t15] w5))) λs7 _ w8=>aS (s7.getD 0 undef) (aI P0 126 [t3,(.int .u8 92)] w8 λt16 w9=>J6 [t10] w9) (aO .eql t10 (.int .i32 10) λt18=>aS t18 (aI P0 126 [t3,(.int .u8 92)] w8 λt19 w10=>J6 [(.int .i32 110)] w10) (aO .eql t10 (.int .i32 9) λt21=>aS t21 (aI P0 126 [t3,(.int .u8 92)] w8 λt22 w11=>J6 [(.int .i32 116)] w11) (aO .eql t10 (.int .i32 13) λt24=>aS t24 (aI P0 126 [t3,(.int .u8 92)] w8 λt25 w12=>J6 [(.int .i32 114)] w12) (J6 [t10] w8))))) λs6 _ w13=>aI P0 127 [t3,(s6.getD 0 undef)] w13 λt27 w14=>L3 [] w14) (aI P0 44 [t3] w5 λt28 w15=>K t28 w15)
theorem Tw{K:Q0}(h:W83 v0 w K):aI P0 83 [v0] w K:=
 tie _ 83 Tryz.f83 RY _ w K 1 _ rfl mixed Tryz.func83 (by kernel_rfl) (by kernel_rfl) Tryz.call83 h
def RX:dP:={js:=[(17,⟨[],[8,9],14⟩),(10,⟨[13],[8,9],13⟩)],ds:=[(24,⟨[0,1,2,3,4,5,6,7,8,9],[[],[0],[],[2],[],[2,3,4],[2,3,4,5],[0,1,2,3,4,5,6],[0,1,2,3,4,5,6,7],[0,1,2,3,4,5,6,7,8],[0,1,2,3,4,5,6,7,8,9],[0,1,2,3,4,5,6,7,8,9,10]]⟩)]}
def W85(v0 v1 v2:Value)(w:World)(K:Q0):=mR 28 v0 w λt3 w1=>mR 35 v1 w1 λt4 w2=>cN 114 zL3 w2 λt7 w3=>aI P0 126 [t7,(.int .u8 34)] w3 λt10 w4=>iB v2 λt12=>dD [(i64 0)] w4 λs5 _ w6 L5=>aO .lss (s5.getD 0 undef) t12 λt14=>aS t14 (cK (λJ7=>fO none 1 v2 (s5.getD 0 undef) λt16=>ldW false 1 t16 w6 λt17=>bA 3 t4 λt18=>ldW false 1 t18 w6 λt19=>fO none 1 t19 (s5.getD 0 undef) λt21=>ldW false 1 t21 w6 λt22=>aO .eql t22 (str [116]) λt23=>aS t23 (bA 0 t3 λt24=>ldW false 1 t24 w6.drew λt25=>bA 2 t4 λt26=>ldW false 1 t26 w6.drew λt27=>fO none 1 t27 (s5.getD 0 undef) λt29=>ldW false 1 t29 w6.drew λt30=>fO none 5 t25 t30 λt31=>bA 1 t31 λt32=>ldW false 1 t32 w6.drew λt33=>aI P0 83 [t33] w6.drew λt34 w8=>aI P0 88 [t7,t34] w8 λt35 w9=>J7 [] w9) (aO .add (str [36,123]) t17 λt37=>aO .add t37 (str [125]) λt38=>aI P0 88 [t7,t38] w6 λt39 w10=>J7 [] w10)) λs7 _ w11=>aO .add (s5.getD 0 undef) (i64 1) λt40=>L5 [t40] w11) (aI P0 126 [t7,(.int .u8 34)] w6 λt41 w12=>aI P0 44 [t7] w12 λt42 w13=>K t42 w13)
theorem Tv{K:Q0}(h:W85 v0 v1 v2 w K):aI P0 85 [v0,v1,v2] w K:=
 tie _ 85 Tryz.f85 RX _ w K 3 _ rfl mixed Tryz.func85 (by kernel_rfl) (by kernel_rfl) Tryz.call85 h
def RV:dP:={js:=[],ds:=[]}
def W86(v0:Value)(w:World)(K:Q0):=gJ (List.replicate 13 (str [])) [(0,1,(str [43])),(1,1,(str [45])),(2,1,(str [42])),(3,1,(str [47])),(4,1,(str [37])),(5,1,(str [61,61])),(6,1,(str [33,61])),(7,1,(str [60])),(8,1,(str [62])),(9,1,(str [60,61])),(10,1,(str [62,61])),(11,1,(str [38,38])),(12,1,(str [124,124]))] λc1=>aO .sub v0 (i64 15) λt5=>LJ 13 false 1 (.agg c1.toArray) t5 λt6=>K t6 w
theorem Tu{K:Q0}(h:W86 v0 w K):aI P0 86 [v0] w K:=
 tie _ 86 Tryz.f86 RV _ w K 1 _ rfl mixed Tryz.func86 (by kernel_rfl) (by kernel_rfl) Tryz.call86 h
def Og:dP:={js:=[(28003,⟨[36],[],35⟩),(16,⟨[28],[2,5],28⟩),(6002,⟨[23],[],17⟩),(6004,⟨[22],[],21⟩),(6008,⟨[20],[],17⟩),(6013,⟨[14],[],12⟩)],ds:=[]}
def VJ(v0:Value)(w:World)(K:Q0):=aI P0 148 [v0,(str [45])] w λt7 w1=>iK t7 λt9=>aO .lss t9 (i64 1) λt10=>GdW (isB t10 false) [undef] w1 (λJ2=>iK t7 λt13=>aO .gtr t13 (i64 100) λt14=>J2 [t14] w1) λs2 _ w3=>eG t10 (.bool true) (s2.getD 0 undef) λt15=>GdW (isB t15 false) [undef] w3 (λJ4=>pH t7 (i64 0) λt18=>aO .eql t18 (.int .u8 48) λt19=>J4 [t19] w3) λs4 _ w5=>GdW (isB (s4.getD 0 undef) true) [undef] w5 (λJ6=>aO .neq v0 (str [48]) λt22=>J6 [t22] w5) λs6 _ w7=>GdW (isB t15 false) [undef] w7 (λJ8=>eG (s4.getD 0 undef) (s6.getD 0 undef) (.bool false) λt23=>J8 [t23] w7) λs8 _ w9=>eG t15 (.bool true) (s8.getD 0 undef) λt24=>aS t24 (K (.bool false) w9) (fG P0 (convert 9 80 t7) w9 λt26 w10=>iB t26 λt27=>dD [(i64 0)] w10 λs11 _ w12 L11=>aO .lss (s11.getD 0 undef) t27 λt29=>aS t29 (fO none 1 t26 (s11.getD 0 undef) λt30=>ldW false 1 t30 w12 λt31=>aO .lss t31 (.int .u8 48) λt33=>GdW (isB t33 false) [undef] w12 (λJ13=>aO .gtr t31 (.int .u8 57) λt36=>J13 [t36] w12) λs13 _ w14=>eG t33 (.bool true) (s13.getD 0 undef) λt37=>aS t37 (K (.bool false) w14) (aO .add (s11.getD 0 undef) (i64 1) λt38=>L11 [t38] w14)) (K (.bool true) w12))
theorem Qr{K:Q0}(h:VJ v0 w K):aI P0 111 [v0] w K:=
 tie _ 111 Tryz.f111 Og _ w K 1 _ rfl mixed Tryz.func111 (by kernel_rfl) (by kernel_rfl) Tryz.call111 h
def Uz:dP:={js:=[(44,⟨[60],[2,7],60⟩),(34008,⟨[55],[],49⟩),(29003,⟨[42],[],33⟩),(29006,⟨[41],[],39⟩),(29012,⟨[38],[],33⟩)],ds:=[(56,⟨[0,1,2,3,4,5,6,7,8,9,10,11,13],[[],[],[1],[],[1,2,3],[1,2,3,4],[],[],[7],[],[7,8,9],[7,8,9,10],[0,1,2,3,4,5,6,7,8,9,10,11],[0,1,2,3,4,5,6,7,8,9,10,11,12]]⟩)]}
def W4(v0:Value)(w:World)(K:Q0):=aI P0 15 [] w λt8 w1=>unW .not t8 λt9=>aS t9 (K (.bool false) w1) (aI P0 11 [v0] w1 λt12 w2=>aI P0 12 [t12] w2 λt13 w3=>iX 0 t13 λt14=>iX 1 t13 λt15=>cN 28 [sN,sN,sN] w3 λt3 w4=>stW 3 t3 t14 w4 λw5=>eqW .ptr true t15 (.pointer none) λt17=>aS t17 (K (.bool true) w5) (ldW true 3 t3 w5 λt18=>aI P0 16 [t18] w5 λt19 w6=>aI P0 12 [t19] w6 λt22 w7=>iX 0 t22 λt23=>iX 1 t22 λt24=>cN 28 [sN,sN,sN] w7 λt6 w8=>stW 3 t6 t23 w8 λw9=>eqW .ptr true t24 (.pointer none) λt26=>aS t26 (dR t24 λt28=>bA 0 t28 λt29=>ldW false 1 t29 w9 λt30=>aO .eql t30 (i64 7) λt31=>GdW (isB t31 false) [undef] w9 (λJ10=>dR t24 λt34=>bA 0 t34 λt35=>ldW false 1 t35 w9 λt36=>aO .eql t36 (i64 3) λt37=>J10 [t37] w9) λs10 _ w11=>GdW (isB (s10.getD 0 undef) true) [undef] w11 (λJ12=>iK t19 λt40=>aO .gtr t40 (i64 4000) λt41=>J12 [t41] w11) λs12 _ w13=>GdW (isB t31 false) [undef] w13 (λJ14=>eG (s10.getD 0 undef) (s12.getD 0 undef) (.bool false) λt42=>J14 [t42] w13) λs14 _ w15=>eG t31 (.bool true) (s14.getD 0 undef) λt43=>K t43 w15) (ldW true 3 t6 w9 λt44=>aI P0 16 [t44] w9 λt45 w16=>aO .neq t45 t19 λt47=>GdW (isB t47 false) [undef] w16 (λJ17=>bA 2 t3 λt49=>ldW false 1 t49 w16 λt50=>iB t50 λt51=>bA 2 t6 λt52=>ldW false 1 t52 w16 λt53=>iB t53 λt54=>aO .neq t51 t54 λt55=>J17 [t55] w16) λs17 _ w18=>eG t47 (.bool true) (s17.getD 0 undef) λt56=>aS t56 (K (.bool false) w18) (bA 2 t3 λt57=>ldW false 1 t57 w18 λt58=>iB t58 λt59=>dD [(i64 0)] w18 λs19 _ w20 L19=>aO .lss (s19.getD 0 undef) t59 λt61=>aS t61 (ldW true 3 t3 w20.drew λt63=>bA 2 t3 λt64=>ldW false 1 t64 w20.drew λt65=>fO none 1 t65 (s19.getD 0 undef) λt67=>ldW false 1 t67 w20.drew λt68=>ldW true 3 t6 w20.drew λt69=>bA 2 t6 λt70=>ldW false 1 t70 w20.drew λt71=>fO none 1 t71 (s19.getD 0 undef) λt73=>ldW false 1 t73 w20.drew λt74=>aI P0 17 [t63,t68,t69,t74] w20.drew λt75 w21=>unW .not t75 λt76=>aS t76 (K (.bool false) w21) (aO .add (s19.getD 0 undef) (i64 1) λt77=>L19 [t77] w21)) (K (.bool true) w20)))))
theorem UU{K:Q0}(h:W4 v0 w K):aI P0 4 [v0] w K:=
 tie _ 4 Tryz.f4 Uz _ w K 1 _ rfl mixed Tryz.func4 (by kernel_rfl) (by kernel_rfl) Tryz.call4 h
def SD:dP:={js:=[],ds:=[]}
def W11(v0:Value)(w:World)(K:Q0):=iK v0 λt5=>OE t5 (i64 6000) λt6=>mN v0 none (some t6) λt7=>K t7 w
theorem Ue{K:Q0}(h:W11 v0 w K):aI P0 11 [v0] w K:=
 tie _ 11 Tryz.f11 SD _ w K 1 _ rfl mixed Tryz.func11 (by kernel_rfl) (by kernel_rfl) Tryz.call11 h
def SC:dP:={js:=[(5005,⟨[22],[],20⟩),(5010,⟨[17],[],15⟩),(5015,⟨[12],[],10⟩)],ds:=[]}
def W15(w:World)(K:Q0):=aI P0 12 [(str [97,32,123,120,61,49,43,121,46,122,42,50,125])] w λt4 w1=>iX 0 t4 λt5=>iX 1 t4 λt6=>cN 28 [sN,sN,sN] w1 λt1 w2=>stW 3 t1 t5 w2 λw3=>eqW .ptr false t6 (.pointer none) λt8=>GdW (isB t8 true) [undef] w3 (λJ4=>ldW true 3 t1 w3 λt10=>aI P0 16 [t10] w3 λt11 w5=>aO .eql t11 (str [97,32,123,10,32,32,120,32,61,32,40,49,32,43,32,40,40,121,41,46,122,32,42,32,50,41,41,10,125,10]) λt12=>J4 [t12] w5) λs4 _ w6=>eG t8 (s4.getD 0 undef) (.bool false) λt13=>GdW (isB t13 true) [undef] w6 (λJ7=>ldW true 3 t1 w6 λt15=>aI P0 42 [t15,(i64 0)] w6 λt16 w8=>aO .eql t16 (str [49]) λt17=>J7 [t17] w8) λs7 _ w9=>eG t13 (s7.getD 0 undef) (.bool false) λt18=>GdW (isB t18 true) [undef] w9 (λJ10=>ldW true 3 t1 w9 λt20=>aI P0 42 [t20,(i64 99)] w9 λt21 w11=>aO .eql t21 (str []) λt22=>J10 [t22] w11) λs10 _ w12=>eG t18 (s10.getD 0 undef) (.bool false) λt23=>K t23 w12
theorem Ua{K:Q0}(h:W15 w K):aI P0 15 [] w K:=
 tie _ 15 Tryz.f15 SC _ w K 0 _ rfl mixed Tryz.func15 (by kernel_rfl) (by kernel_rfl) Tryz.call15 h
def Sy:dP:={js:=[(39,⟨[95],[8,12],95⟩),(16,⟨[57],[8,11],57⟩),(6008,⟨[52],[],46⟩),(6017,⟨[43],[],37⟩),(6025,⟨[34],[],29⟩),(2,⟨[9,10],[],7⟩)],ds:=[(51,⟨[0,1,2,3,4,5,6,7,8,9,10,11,13],[[],[],[1],[],[1,2,3],[1,2,3,4],[],[],[7],[],[7,8,9],[7,8,9,10],[0,1,2,3,4,5,6,7,8,9,10,11],[0,1,2,3,4,5,6,7,8,9,10,11,12]]⟩),(28,⟨[0,1,2,3,4,5,6,7,8,9,10,11,12,13,14,15,16,17,18,19,20,21,22,23,24,25,26,27,29,30],[[],[0],[],[0,1,2],[0,1,2,3],[0,1,2,3,4],[],[6],[],[6,7,8],[6,7,8,9],[6,7,8,9,10],[0,1,2,3,4,5,6,7,8,9,10,11],[0,1,2,3,4,5,6,7,8,9,10,11,12],[0,1,2,3,4,5,6,7,8,9,10,11,12,13],[0,1,2,3,4,5,6,7,8,9,10,11,12,13],[0,1,2,3,4,5,6,7,8,9,10,11,12,13,15],[0,1,2,3,4,5,6,7,8,9,10,11,12,13],[0,1,2,3,4,5,6,7,8,9,10,11,12,13,15,16,17],[0,1,2,3,4,5,6,7,8,9,10,11,12,13,15,16,17,18],[0,1,2,3,4,5,6,7,8,9,10,11,12,13,15,16,17,18,19],[0,1,2,3,4,5,6,7,8,9,10,11,12,13],[0,1,2,3,4,5,6,7,8,9,10,11,12,13],[0,1,2,3,4,5,6,7,8,9,10,11,12,13,22],[0,1,2,3,4,5,6,7,8,9,10,11,12,13],[0,1,2,3,4,5,6,7,8,9,10,11,12,13,22,23,24],[0,1,2,3,4,5,6,7,8,9,10,11,12,13,22,23,24,25],[0,1,2,3,4,5,6,7,8,9,10,11,12,13,22,23,24,25,26],[0,1,2,3,4,5,6,7,8,9,10,11,12,13,14,15,16,17,18,19,20,21,22,23,24,25,26,27],[0,1,2,3,4,5,6,7,8,9,10,11,12,13,14,15,16,17,18,19,20,21,22,23,24,25,26,27,28],[0,1,2,3,4,5,6,7,8,9,10,11,12,13,14,15,16,17,18,19,20,21,22,23,24,25,26,27,28,29]]⟩),(3,⟨[0,1,2,3,4,5,6,7,8,9],[[],[0],[],[0,1,2],[0,1,2,3],[],[5],[],[5,6,7],[5,6,7,8],[],[],[0,1,2,3,4,10,11],[0,1,2,3,4,5,6,7,8,9,10,11,12]]⟩)]}
def W17(v0 v1 v2 v3:Value)(w:World)(K:Q0):=mR 28 v0 w λt4 w1=>mR 28 v2 w1 λt6 w2=>cK (λJ3=>bA 1 t4 λt13=>ldW false 1 t13 w2.drew λt14=>fO none 5 t14 v1 λt16=>ldW true 5 t16 w2.drew λt17=>bA 1 t6 λt18=>ldW false 1 t18 w2.drew λt19=>fO none 5 t19 v3 λt21=>ldW true 5 t21 w2.drew λt22=>(cN 38 zL2 w2.drew λt9 w4=>(ldW true 5 t21 w4 λx=>x=t22)/\(ldW false 1 t18 w4 λx=>x=t19)/\(ldW true 5 t16 w4 λx=>x=t17)/\(ldW false 1 t13 w4 λx=>x=t14)/\cN 38 zL2 w4 λt10 w5=>(ldW true 5 t21 w5 λx=>x=t22)/\(ldW false 1 t18 w5 λx=>x=t19)/\(ldW true 5 t16 w5 λx=>x=t17)/\(ldW false 1 t13 w5 λx=>x=t14)/\stW 5 t9 t17 w5 λw6=>(ldW true 5 t21 w6 λx=>x=t22)/\(ldW false 1 t18 w6 λx=>x=t19)/\stW 5 t10 t22 w6 λw7=>J3 [t9,t10] w7)/\(cN 38 zL2 w2.drew λt10 w8=>(ldW true 5 t21 w8 λx=>x=t22)/\(ldW false 1 t18 w8 λx=>x=t19)/\(ldW true 5 t16 w8 λx=>x=t17)/\(ldW false 1 t13 w8 λx=>x=t14)/\cN 38 zL2 w8 λt9 w9=>(ldW true 5 t21 w9 λx=>x=t22)/\(ldW false 1 t18 w9 λx=>x=t19)/\(ldW true 5 t16 w9 λx=>x=t17)/\(ldW false 1 t13 w9 λx=>x=t14)/\stW 5 t9 t17 w9 λw10=>(ldW true 5 t21 w10 λx=>x=t22)/\(ldW false 1 t18 w10 λx=>x=t19)/\stW 5 t10 t22 w10 λw11=>J3 [t9,t10] w11)) λs3 _ w12=>bA 0 (s3.getD 0 undef) λt23=>ldW false 1 t23 w12 λt24=>bA 0 (s3.getD 1 undef) λt25=>ldW false 1 t25 w12 λt26=>aO .neq t24 t26 λt27=>GdW (isB t27 false) [undef] w12 (λJ13=>bA 1 (s3.getD 0 undef) λt29=>ldW false 1 t29 w12 λt30=>bA 1 (s3.getD 1 undef) λt31=>ldW false 1 t31 w12 λt32=>aI P0 25 [t30,t32] w12 λt33 w14=>unW .not t33 λt34=>J13 [t34] w14) λs13 _ w15=>eG t27 (.bool true) (s13.getD 0 undef) λt35=>GdW (isB t35 false) [undef] w15 (λJ16=>bA 2 (s3.getD 0 undef) λt37=>ldW false 1 t37 w15 λt38=>iB t38 λt39=>bA 2 (s3.getD 1 undef) λt40=>ldW false 1 t40 w15 λt41=>iB t41 λt42=>aO .neq t39 t42 λt43=>J16 [t43] w15) λs16 _ w17=>eG t35 (.bool true) (s16.getD 0 undef) λt44=>GdW (isB t44 false) [undef] w17 (λJ18=>bA 3 (s3.getD 0 undef) λt46=>ldW false 1 t46 w17 λt47=>iB t47 λt48=>bA 3 (s3.getD 1 undef) λt49=>ldW false 1 t49 w17 λt50=>iB t50 λt51=>aO .neq t48 t51 λt52=>J18 [t52] w17) λs18 _ w19=>eG t44 (.bool true) (s18.getD 0 undef) λt53=>aS t53 (K (.bool false) w19) (bA 2 (s3.getD 0 undef) λt54=>ldW false 1 t54 w19 λt55=>iB t55 λt56=>dD [(i64 0)] w19 λs20 _ w21 L20=>aO .lss (s20.getD 0 undef) t56 λt58=>aS t58 (bA 2 (s3.getD 0 undef) λt60=>ldW false 1 t60 w21.drew λt61=>fO none 3 t61 (s20.getD 0 undef) λt63=>bA 0 t63 λt64=>ldW false 1 t64 w21.drew λt65=>bA 2 (s3.getD 1 undef) λt66=>ldW false 1 t66 w21.drew λt67=>fO none 3 t67 (s20.getD 0 undef) λt69=>bA 0 t69 λt70=>ldW false 1 t70 w21.drew λt71=>aO .neq t65 t71 λt72=>GqW (isB t72 false) (λk22=>ldW true 3 t4 w21.drew k22) λt74=>GqW (isB t72 false) (λk23=>bA 2 (s3.getD 0 undef) k23) λt75=>GqW (isB t72 false) (λk24=>ldW false 1 t75 w21.drew k24) λt76=>GqW (isB t72 false) (λk25=>k25 (s20.getD 0 undef)) λt77=>GqW (isB t72 false) (λk26=>fO none 3 t76 t77 k26) λt78=>GqW (isB t72 false) (λk27=>bA 1 t78 k27) λt79=>GqW (isB t72 false) (λk28=>ldW false 1 t79 w21.drew k28) λt80=>GqW (isB t72 false) (λk29=>ldW true 3 t6 w21.drew k29) λt81=>GqW (isB t72 false) (λk30=>bA 2 (s3.getD 1 undef) k30) λt82=>GqW (isB t72 false) (λk31=>ldW false 1 t82 w21.drew k31) λt83=>GqW (isB t72 false) (λk32=>k32 (s20.getD 0 undef)) λt84=>GqW (isB t72 false) (λk33=>fO none 3 t83 t84 k33) λt85=>GqW (isB t72 false) (λk34=>bA 1 t85 k34) λt86=>GqW (isB t72 false) (λk35=>ldW false 1 t86 w21.drew k35) λt87=>GeW (isB t72 false) w21.drew (λk36=>aI P0 45 [t74,t80,t81,t87] w21.drew k36) λt88 w37=>GqW (isB t72 false) (λk38=>unW .not t88 k38) λt89=>eG t72 (.bool true) t89 λt90=>aS t90 (K (.bool false) w37) (aO .add (s20.getD 0 undef) (i64 1) λt91=>L20 [t91] w37)) (bA 3 (s3.getD 0 undef) λt92=>ldW false 1 t92 w21 λt93=>iB t93 λt94=>dD [(i64 0)] w21 λs39 _ w40 L39=>aO .lss (s39.getD 0 undef) t94 λt96=>aS t96 (ldW true 3 t4 w40.drew λt98=>bA 3 (s3.getD 0 undef) λt99=>ldW false 1 t99 w40.drew λt100=>fO none 1 t100 (s39.getD 0 undef) λt102=>ldW false 1 t102 w40.drew λt103=>ldW true 3 t6 w40.drew λt104=>bA 3 (s3.getD 1 undef) λt105=>ldW false 1 t105 w40.drew λt106=>fO none 1 t106 (s39.getD 0 undef) λt108=>ldW false 1 t108 w40.drew λt109=>aI P0 17 [t98,t103,t104,t109] w40.drew λt110 w41=>unW .not t110 λt111=>aS t111 (K (.bool false) w41) (aO .add (s39.getD 0 undef) (i64 1) λt112=>L39 [t112] w41)) (K (.bool true) w40)))
theorem TY{K:Q0}(h:W17 v0 v1 v2 v3 w K):aI P0 17 [v0,v1,v2,v3] w K:=
 tie _ 17 Tryz.f17 Sy _ w K 4 _ rfl mixed Tryz.func17 (by kernel_rfl) (by kernel_rfl) Tryz.call17 h
def Sx:dP:={js:=[(14,⟨[13],[4,5],13⟩)],ds:=[(26,⟨[0,1,2,3,4,5,6,7,8],[[],[],[0,1],[0,1,2],[],[],[4,5],[4,5,6],[0,1,2,3,4,5,6,7]]⟩)]}
def W25(v0 v1:Value)(w:World)(K:Q0):=iB v0 λt7=>iB v1 λt9=>aO .neq t7 t9 λt10=>aS t10 (K (.bool false) w) (iB v0 λt12=>dD [(i64 0)] w λs1 _ w2 L1=>aO .lss (s1.getD 0 undef) t12 λt14=>aS t14 (fO none 1 v0 (s1.getD 0 undef) λt18=>ldW false 1 t18 w2.drew λt19=>fO none 1 v1 (s1.getD 0 undef) λt22=>ldW false 1 t22 w2.drew λt23=>aO .neq t19 t23 λt24=>aS t24 (K (.bool false) w2.drew) (aO .add (s1.getD 0 undef) (i64 1) λt25=>L1 [t25] w2.drew)) (K (.bool true) w2))
theorem TX{K:Q0}(h:W25 v0 v1 w K):aI P0 25 [v0,v1] w K:=
 tie _ 25 Tryz.f25 Sx _ w K 2 _ rfl mixed Tryz.func25 (by kernel_rfl) (by kernel_rfl) Tryz.call25 h
def Sn:dP:={js:=[(16,⟨[54],[8,11],54⟩),(6008,⟨[49],[],43⟩),(6016,⟨[40],[],35⟩),(6023,⟨[32],[],28⟩),(2,⟨[9,10],[],7⟩)],ds:=[(28,⟨[0,1,2,3,4,5,6,7,8,9,10,11,13],[[],[],[1],[],[1,2,3],[1,2,3,4],[],[],[7],[],[7,8,9],[7,8,9,10],[0,1,2,3,4,5,6,7,8,9,10,11],[0,1,2,3,4,5,6,7,8,9,10,11,12]]⟩),(3,⟨[0,1,2,3,4,5,6,7,8,9],[[],[0],[],[0,1,2],[0,1,2,3],[],[5],[],[5,6,7],[5,6,7,8],[],[],[0,1,2,3,4,10,11],[0,1,2,3,4,5,6,7,8,9,10,11,12]]⟩)]}
def W45(v0 v1 v2 v3:Value)(w:World)(K:Q0):=mR 28 v0 w λt4 w1=>mR 28 v2 w1 λt6 w2=>cK (λJ3=>bA 0 t4 λt12=>ldW false 1 t12 w2.drew λt13=>fO none 5 t13 v1 λt15=>ldW true 5 t15 w2.drew λt16=>bA 0 t6 λt17=>ldW false 1 t17 w2.drew λt18=>fO none 5 t18 v3 λt20=>ldW true 5 t20 w2.drew λt21=>(cN 35 zL1 w2.drew λt9 w4=>(ldW true 5 t20 w4 λx=>x=t21)/\(ldW false 1 t17 w4 λx=>x=t18)/\(ldW true 5 t15 w4 λx=>x=t16)/\(ldW false 1 t12 w4 λx=>x=t13)/\cN 35 zL1 w4 λt10 w5=>(ldW true 5 t20 w5 λx=>x=t21)/\(ldW false 1 t17 w5 λx=>x=t18)/\(ldW true 5 t15 w5 λx=>x=t16)/\(ldW false 1 t12 w5 λx=>x=t13)/\stW 5 t9 t16 w5 λw6=>(ldW true 5 t20 w6 λx=>x=t21)/\(ldW false 1 t17 w6 λx=>x=t18)/\stW 5 t10 t21 w6 λw7=>J3 [t9,t10] w7)/\(cN 35 zL1 w2.drew λt10 w8=>(ldW true 5 t20 w8 λx=>x=t21)/\(ldW false 1 t17 w8 λx=>x=t18)/\(ldW true 5 t15 w8 λx=>x=t16)/\(ldW false 1 t12 w8 λx=>x=t13)/\cN 35 zL1 w8 λt9 w9=>(ldW true 5 t20 w9 λx=>x=t21)/\(ldW false 1 t17 w9 λx=>x=t18)/\(ldW true 5 t15 w9 λx=>x=t16)/\(ldW false 1 t12 w9 λx=>x=t13)/\stW 5 t9 t16 w9 λw10=>(ldW true 5 t20 w10 λx=>x=t21)/\(ldW false 1 t17 w10 λx=>x=t18)/\stW 5 t10 t21 w10 λw11=>J3 [t9,t10] w11)) λs3 _ w12=>bA 0 (s3.getD 0 undef) λt22=>ldW false 1 t22 w12 λt23=>bA 0 (s3.getD 1 undef) λt24=>ldW false 1 t24 w12 λt25=>aO .neq t23 t25 λt26=>GdW (isB t26 false) [undef] w12 (λJ13=>bA 1 (s3.getD 0 undef) λt28=>ldW false 1 t28 w12 λt29=>bA 1 (s3.getD 1 undef) λt30=>ldW false 1 t30 w12 λt31=>aO .neq t29 t31 λt32=>J13 [t32] w12) λs13 _ w14=>eG t26 (.bool true) (s13.getD 0 undef) λt33=>GdW (isB t33 false) [undef] w14 (λJ15=>bA 3 (s3.getD 0 undef) λt35=>ldW false 1 t35 w14 λt36=>bA 3 (s3.getD 1 undef) λt37=>ldW false 1 t37 w14 λt38=>aI P0 25 [t36,t38] w14 λt39 w16=>unW .not t39 λt40=>J15 [t40] w16) λs15 _ w17=>eG t33 (.bool true) (s15.getD 0 undef) λt41=>GdW (isB t41 false) [undef] w17 (λJ18=>bA 2 (s3.getD 0 undef) λt43=>ldW false 1 t43 w17 λt44=>iB t44 λt45=>bA 2 (s3.getD 1 undef) λt46=>ldW false 1 t46 w17 λt47=>iB t47 λt48=>aO .neq t45 t48 λt49=>J18 [t49] w17) λs18 _ w19=>eG t41 (.bool true) (s18.getD 0 undef) λt50=>aS t50 (K (.bool false) w19) (bA 2 (s3.getD 0 undef) λt51=>ldW false 1 t51 w19 λt52=>iB t52 λt53=>dD [(i64 0)] w19 λs20 _ w21 L20=>aO .lss (s20.getD 0 undef) t53 λt55=>aS t55 (ldW true 3 t4 w21.drew λt57=>bA 2 (s3.getD 0 undef) λt58=>ldW false 1 t58 w21.drew λt59=>fO none 1 t59 (s20.getD 0 undef) λt61=>ldW false 1 t61 w21.drew λt62=>ldW true 3 t6 w21.drew λt63=>bA 2 (s3.getD 1 undef) λt64=>ldW false 1 t64 w21.drew λt65=>fO none 1 t65 (s20.getD 0 undef) λt67=>ldW false 1 t67 w21.drew λt68=>aI P0 45 [t57,t62,t63,t68] w21.drew λt69 w22=>unW .not t69 λt70=>aS t70 (K (.bool false) w22) (aO .add (s20.getD 0 undef) (i64 1) λt71=>L20 [t71] w22)) (K (.bool true) w21))
theorem TK{K:Q0}(h:W45 v0 v1 v2 v3 w K):aI P0 45 [v0,v1,v2,v3] w K:=
 tie _ 45 Tryz.f45 Sn _ w K 4 _ rfl mixed Tryz.func45 (by kernel_rfl) (by kernel_rfl) Tryz.call45 h
def RU:dP:={js:=[],ds:=[]}
def W88(v0 v1:Value)(w:World)(K:Q0):=aI P0 131 [v0] w λt7 w1=>dR v0 λt10=>bA 1 t10 λt11=>ldW false 1 t11 w1 λt12=>fG P0 (Builtin.append_ #[80,9] 80 #[t12,v1]) w1 λt14 w2=>dR v0 λt15=>bA 1 t15 λt16=>stW 1 t16 t14 w2 λw3=>iK v1 λt18=>K (.tuple #[t18,.nilIface]) w3
theorem Tt{K:Q0}(h:W88 v0 v1 w K):aI P0 88 [v0,v1] w K:=
 tie _ 88 Tryz.f88 RU _ w K 2 _ rfl mixed Tryz.func88 (by kernel_rfl) (by kernel_rfl) Tryz.call88 h
def NZ:dP:={js:=[],ds:=[]}
def VD(v0 v1:Value)(w:World)(K:Q0):=aI P0 154 [v0,v1] w λt7 w1=>aO .geq t7 (i64 0) λt8=>K t8 w1
theorem Ql{K:Q0}(h:VD v0 v1 w K):aI P0 117 [v0,v1] w K:=
 tie _ 117 Tryz.f117 NZ _ w K 2 _ rfl mixed Tryz.func117 (by kernel_rfl) (by kernel_rfl) Tryz.call117 h
def NX:dP:={js:=[],ds:=[]}
def VB(v0 v1:Value)(w:World)(K:Q0):=aI P0 131 [v0] w λt6 w1=>dR v0 λt9=>bA 1 t9 λt10=>ldW false 1 t10 w1 λt11=>fH 5 1 [(.int .u8 0)] [(0,1,v1)] w1 λt13 w2=>fG P0 (Builtin.append_ #[80,80] 80 #[t11,t13]) w2 λt14 w3=>dR v0 λt15=>bA 1 t15 λt16=>stW 1 t16 t14 w3 λw4=>K .nilIface w4
theorem Qj{K:Q0}(h:VB v0 v1 w K):aI P0 126 [v0,v1] w K:=
 tie _ 126 Tryz.f126 NX _ w K 2 _ rfl mixed Tryz.func126 (by kernel_rfl) (by kernel_rfl) Tryz.call126 h
def NW:dP:={js:=[],ds:=[]}
def VA(v0 v1:Value)(w:World)(K:Q0):=aI P0 131 [v0] w λt8 w1=>dR v0 λt10=>bA 1 t10 λt11=>ldW false 1 t11 w1 λt12=>iB t12 λt13=>dR v0 λt16=>bA 1 t16 λt17=>ldW false 1 t17 w1 λt18=>aI P0 166 [t18,v1] w1 λt20 w2=>dR v0 λt21=>bA 1 t21 λt22=>stW 1 t22 t20 w2 λw3=>dR v0 λt24=>bA 1 t24 λt25=>ldW false 1 t25 w3 λt26=>iB t26 λt27=>aO .sub t27 t13 λt29=>K (.tuple #[t29,.nilIface]) w3
theorem Qi{K:Q0}(h:VA v0 v1 w K):aI P0 127 [v0,v1] w K:=
 tie _ 127 Tryz.f127 NW _ w K 2 _ rfl mixed Tryz.func127 (by kernel_rfl) (by kernel_rfl) Tryz.call127 h
def NV:dP:={js:=[],ds:=[]}
def Vz(v0 v1:Value)(w:World)(K:Q0):=aI P0 197 [v0,v1] w λt7 w1=>K t7 w1
theorem Qg{K:Q0}(h:Vz v0 v1 w K):aI P0 148 [v0,v1] w K:=
 tie _ 148 Tryz.f148 NV _ w K 2 _ rfl mixed Tryz.func148 (by kernel_rfl) (by kernel_rfl) Tryz.call148 h
def NR:dP:={js:=[(6,⟨[8],[4,5],8⟩)],ds:=[]}
def Vv(v0 v1:Value)(w:World)(K:Q0):=iB v0 λt7=>dD [(i64 0)] w λs1 _ w2 L1=>aO .lss (s1.getD 0 undef) t7 λt9=>aS t9 (fO none 1 v0 (s1.getD 0 undef) λt14=>ldW false 1 t14 w2 λt15=>aO .eql v1 t15 λt16=>aS t16 (K (s1.getD 0 undef) w2) (aO .add (s1.getD 0 undef) (i64 1) λt18=>L1 [t18] w2)) (K (.int .i64 (-1)) w2)
theorem Qc{K:Q0}(h:Vv v0 v1 w K):aI P0 154 [v0,v1] w K:=
 tie _ 154 Tryz.f154 NR _ w K 2 _ rfl mixed Tryz.func154 (by kernel_rfl) (by kernel_rfl) Tryz.call154 h
def NM:dP:={js:=[],ds:=[]}
def Vq(v0 v1:Value)(w:World)(K:Q0):=wW .u32 v1 λt6=>aO .leq t6 (.int .u32 127) λt7=>aS t7 (wW .u8 v1 λt10=>fH 5 1 [(.int .u8 0)] [(0,1,t10)] w λt11 w1=>fG P0 (Builtin.append_ #[80,80] 80 #[v0,t11]) w1 λt12 w2=>K t12 w2) (aI P0 207 [v0,v1] w λt15 w3=>K t15 w3)
theorem PY{K:Q0}(h:Vq v0 v1 w K):aI P0 166 [v0,v1] w K:=
 tie _ 166 Tryz.f166 NM _ w K 2 _ rfl mixed Tryz.func166 (by kernel_rfl) (by kernel_rfl) Tryz.call166 h
def NL:dP:={js:=[],ds:=[]}
def Vp(v0 v1:Value)(w:World)(K:Q0):=aI P0 103 [v0,v1] w λt7 w1=>aS t7 (iK v1 λt10=>mN v0 (some t10) none λt11=>K t11 w1) (K v0 w1)
theorem PW{K:Q0}(h:Vp v0 v1 w K):aI P0 197 [v0,v1] w K:=
 tie _ 197 Tryz.f197 NL _ w K 2 _ rfl mixed Tryz.func197 (by kernel_rfl) (by kernel_rfl) Tryz.call197 h
def NH:dP:={js:=[(22004,⟨[55],[],54⟩),(11,⟨[25],[],6⟩),(16004,⟨[32],[],31⟩)],ds:=[]}
def Vl(v0 v1:Value)(w:World)(K:Q0):=wW .u32 v1 λt7=>aO .leq t7 (.int .u32 2047) λt13=>aS t13 (aO .shr v1 (.int .u64 6) λt16=>wW .u8 t16 λt17=>aO .or (.int .u8 192) t17 λt18=>wW .u8 v1 λt20=>aO .and t20 (.int .u8 63) λt21=>aO .or (.int .u8 128) t21 λt22=>fH 5 2 [(.int .u8 0),(.int .u8 0)] [(0,1,t18),(1,1,t22)] w λt23 w1=>fG P0 (Builtin.append_ #[80,80] 80 #[v0,t23]) w1 λt24 w2=>K t24 w2) (cK (λJ3=>aO .lss t7 (.int .u32 55296) λt27=>aS t27 (J3 [t27] w) (aO .lss (.int .u32 57343) t7 λt29=>GdW (isB t29 true) [undef] w (λJ4=>aO .leq t7 (.int .u32 65535) λt32=>J4 [t32] w) λs4 _ w5=>eG t29 (s4.getD 0 undef) (.bool false) λt33=>J3 [t33] w5)) λs3 _ w6=>aS (s3.getD 0 undef) (aO .shr v1 (.int .u64 12) λt36=>wW .u8 t36 λt37=>aO .or (.int .u8 224) t37 λt38=>aO .shr v1 (.int .u64 6) λt40=>wW .u8 t40 λt41=>aO .and t41 (.int .u8 63) λt42=>aO .or (.int .u8 128) t42 λt43=>wW .u8 v1 λt45=>aO .and t45 (.int .u8 63) λt46=>aO .or (.int .u8 128) t46 λt47=>fH 5 3 [(.int .u8 0),(.int .u8 0),(.int .u8 0)] [(0,1,t38),(1,1,t43),(2,1,t47)] w6 λt48 w7=>fG P0 (Builtin.append_ #[80,80] 80 #[v0,t48]) w7 λt49 w8=>K t49 w8) (aO .gtr t7 (.int .u32 65535) λt52=>GdW (isB t52 true) [undef] w6 (λJ9=>aO .leq t7 (.int .u32 1114111) λt55=>J9 [t55] w6) λs9 _ w10=>eG t52 (s9.getD 0 undef) (.bool false) λt56=>aS t56 (aO .shr v1 (.int .u64 18) λt59=>wW .u8 t59 λt60=>aO .or (.int .u8 240) t60 λt61=>aO .shr v1 (.int .u64 12) λt63=>wW .u8 t63 λt64=>aO .and t64 (.int .u8 63) λt65=>aO .or (.int .u8 128) t65 λt66=>aO .shr v1 (.int .u64 6) λt68=>wW .u8 t68 λt69=>aO .and t69 (.int .u8 63) λt70=>aO .or (.int .u8 128) t70 λt71=>wW .u8 v1 λt73=>aO .and t73 (.int .u8 63) λt74=>aO .or (.int .u8 128) t74 λt75=>fH 5 4 [(.int .u8 0),(.int .u8 0),(.int .u8 0),(.int .u8 0)] [(0,1,t61),(1,1,t66),(2,1,t71),(3,1,t75)] w10 λt76 w11=>fG P0 (Builtin.append_ #[80,80] 80 #[v0,t76]) w11 λt77 w12=>K t77 w12) (fH 5 3 [(.int .u8 0),(.int .u8 0),(.int .u8 0)] [(0,1,(.int .u8 239)),(1,1,(.int .u8 191)),(2,1,(.int .u8 189))] w10 λt9 w13=>fG P0 (Builtin.append_ #[80,80] 80 #[v0,t9]) w13 λt10 w14=>K t10 w14)))
theorem PQ{K:Q0}(h:Vl v0 v1 w K):aI P0 207 [v0,v1] w K:=
 tie _ 207 Tryz.f207 NH _ w K 2 _ rfl mixed Tryz.func207 (by kernel_rfl) (by kernel_rfl) Tryz.call207 h
end
section
open Go Go.Eng Go.RowKit Go.Syn Go.Lex
variable{w:World}{K:Q0}{cs:List Value}{G:Nat->Prop}{T:TypeId}{i:Nat}{n:Nat}{v:Value}{w':World}{P:Program}{c:UInt8}{S:Nat->Prop}
abbrev DT:TypeId:=29
def eK(t:Tok):List Value:=[i64 t.k,str t.t,i64 t.a]
def xL(w:World)(p:Nat):Nat:=match w.heap[p]? with|some (.cells c _ _)=>(match(c[1]?:Option Value)with|some (Value.int _ i)=>i.toNat|_=>0)|_=>0
theorem PR.at_{w0:World}{p f:Nat}{M:Lay}{vt:Value}{s:PS}{top:List Nat}(h:PR w0 w p f M vt s top):xL w p=s.i:=by
 unfold xL;rw[h.ps];simp
theorem wsi{N:Int}{s:PS}(h:WS N s)(hN:s.toks.length<=100000):s.i<=1000000:=by have:=h.lt;omega
section
variable [HX]
def Thr(w0:World)(f:Nat)(code at_:Int):Prop:=
 ∀(d:Nat) (w':World) (cs:List Value),Chg (Of f) w0 w'->w0.heap.size<=d->cs.length=3->w'.heap[f]?=some (.cells cs.toArray FlT (0,0))->w'.heap[d]?=some (.cells [i64 code,str [],i64 at_].toArray 48 (0,0))->HX.X [{v:=.iface DT (.pointer (some ⟨d,0,none⟩)),recovered:=false}] w'
section
variable{w0 w:World}{p f:Nat}{M:Lay}{vt:Value}{s:PS}{top:List Nat}{N:Int}{K:Q0}
theorem pI{e a:Int}(h:PR w0 w p f M vt s top)(ht:Thr w0 f e a):aI P0 33 [i64 e,i64 a] w K:=by
 refine TO ?_;unfold W33;simp only[dJ,eA,dQ,aA,aC,aR,aV];refine⟨by omega,by omega,?_⟩;refine iS (z:=[i64 e,str [],i64 a]) λd w' hd hz hb hx=>?_;have h':=h.ext hx;exact ht d w' _ h'.ch (by have:=h.base;omega) (by rfl) h'.fr.hf hb
theorem rV:∀{l:List Tok} {i:Nat} {t:Tok},l[i]?=some t->eS (l.drop i)=if t.k=5 then eS (l.drop (i+1))+1 else 0:=by
 intro l i t h;have hlt:=(bF.1 h).1;rw[fS hlt,(bF.1 h).2];rfl
theorem mG(h:PR w0 w p f M vt s top)(hs:WS N s)(hN:N<=1000000)(hl:s.toks.length<=100000)(hK:∀w',PR w0 w' p f M vt (aM s) top->Eff p f M M w w'->K (.agg (eK (cur s)).toArray) w'):
  aI P0 31 [.pointer (some ⟨p,0,none⟩)] w K:=by
 refine TU ?_;unfold W31;refine bN λb w1 hb hz1 hbb hx1=>?_;have hp:=h.lt;have h1:=h.ext hx1;have L1:=h.loc hz1 hb hbb;refine dD.go (λst w'=>st=[]/\∃j,PR w0 w' p f M vt {s with i:=j} top/\s.i<=j/\aM {s with i:=j}=aM s/\j<=(aM s).i/\Eff p f M M w w'/\Loc w0 w' p f M vt b TkT [i64 0,str [],i64 0]) (λ_ w'=>s.toks.length-xL w' p)
  ⟨rfl,s.i,h1,aL _,rfl,FS s,Eff.ext hx1,L1⟩ ?_
 rintro st g w2 ⟨rfl,j,h2,hj,hnow,hjn,he2,L2⟩;have hg:=eW hs;have hjl:j<s.toks.length:=by have:=(hg.ws hs).lt;rw[hg.toks]at this;omega
 have hws:WS N {s with i:=j}:=⟨hs.tg,hjl,hs.pN⟩;obtain⟨t,ht⟩:∃t,s.toks[j]?=some t:=⟨_,aG hjl⟩;have h3:=h2.drew;have sl:gE w2.drew TkT vt s.toks.length (toks s.toks):=h3.tk;have stop:aM {s with i:=j}={s with i:=j}->dR (.pointer (some ⟨p,0,none⟩)) (λt30=>bA 0 t30 λt31=>ldW false 1 t31 w2.drew.drew λt32=>dR (.pointer (some ⟨p,0,none⟩)) λt34=>bA 1 t34 λt35=>ldW false 1 t35 w2.drew.drew λt36=>fO none 3 t32 t36 λt37=>ldW true 3 t37 w2.drew.drew λt38=>cN TkT [(.int .i64 0),(.string (ofL [])),(.int .i64 0)] w2.drew.drew λt3 w17=>(ldW true 3 t37 w17 λx=>x=t38)/\(ldW false 1 t35 w17 λx=>x=t36)/\(ldW false 1 t31 w17 λx=>x=t32)/\stW 3 t3 t38 w17 λw18=>bA 2 t3 λt39=>ldW false 1 t39 w18.drew λt40=>dR (.pointer (some ⟨p,0,none⟩)) λt42=>bA 2 t42 λt43=>ldW false 1 t43 w18.drew λt44=>aO .add t40 t44 λt45=>bA 2 t3 λt46=>stW 1 t46 t45 w18.drew λw19=>ldW true 3 t3 w19 λt47=>stW 3 (.pointer (some ⟨b,0,none⟩)) t47 w19 λw20=>ldW true 3 (.pointer (some ⟨b,0,none⟩)) w20 λr21=>K r21 w20):=λhn=>by
  have h4:=h3.drew;have ecur:cur s={t with a:=t.a+s.off}:=by
   unfold cur;rw[<-hnow,hn];have:jX {s with i:=j}=t:=by unfold jX;rw[aH,ht];rfl
   rw[this]
  have hpos:=hws.tg.pos j t ht;simp only at hpos;have ldT:∀{w':World},PR w0 w' p f M vt {s with i:=j} top->ldW false 1 (.pointer (some ((⟨p,0,none⟩:Addr).add 0))) w' λx=>x=vt:=λh=>by
   rw[eC];exact⟨vt,by rw[bO,cP,h.ps,cM];rfl,rfl⟩
  have ldI:∀{w':World},PR w0 w' p f M vt {s with i:=j} top->ldW false 1 (.pointer (some ((⟨p,0,none⟩:Addr).add 1))) w' λx=>x=i64 (j:Nat):=λh=>by
   rw[eC];exact⟨_,by rw[bO,cP,h.ps,cM];rfl,rfl⟩
  refine h4.ld rfl ?_;refine h4.ld rfl ?_;refine BP (size:=3) h4.tk (Bl _) (by omega) hjl λtb o c fr htb hc=>?_;have hcell:∀i,i<3->c[o+i]?=(eK t)[i]?:=λi hi=>by rw[hc i hi];exact EW ht hi
  have three:∀{w':World},w'.heap[tb]?=some (.cells c TkT fr)->iR w' ⟨tb,o,none⟩ 0 3=some (eK t):=λh=>by
   have h0:=hcell 0 (by omega);have h1:=hcell 1 (by omega);have h2:=hcell 2 (by omega);simp only[eK,gF,dV,dK]at h0 h1 h2;simp only[iR,bO,cP,h,cM,gF,h0,h1,h2,jN,Nat.reduceAdd];rfl
  rw[BM];refine⟨eK t,three htb,?_⟩;refine bN λb2 w5 hb2 hz5 hbb5 hx5=>?_;have h5:=h4.ext hx5;have L5:=h4.loc hz5 hb2 hbb5;have htb5:=hx5.at htb id;refine⟨by rw[BM];exact⟨_,three htb5,rfl⟩,ldI h5,ldT h5,?_⟩;refine cL (l:=eK t) L5.1 rfl rfl rfl λw6 hz6 hb6 hc6=>?_;have L6:Loc w0 w6 p f M vt b2 TkT (eK t):=⟨hb6,L5.2.up (by omega)⟩;have h6:=h5.one hc6 L5.2;refine L6.drew.ldf rfl ?_;refine h6.drew.ld (v:=i64 s.off) rfl ?_;rw[bU,dF (by omega) (by omega),bH,bO,aQ];refine L6.drew.st rfl (by simp[eK]) λw7 L7 hc7 hz7=>?_;have h7:=h6.drew.one hc7 L6.drew.2;refine fY (l:=eK (cur s)) (by rw[L7.1,ecur];rfl) rfl ?_;have hbb2:b2≠b:=by have:=L2.lt;have:w2.drew.drew.heap.size=w2.heap.size:=rfl;omega
  have L2':=(((L2.drew.drew.ext hx5).one hc6 (uH hbb2)).drew.one hc7 (uH hbb2));refine AT (l:=eK (cur s)) L2'.1 rfl rfl rfl λw8 hc8=>?_;have h8:=h7.one hc8 L2'.2;refine hK w8 (by rw[<-hnow,hn];exact h8) ?_;have hz2:=he2.chg.size;have z1:w2.drew.drew.heap.size=w2.heap.size:=rfl;exact((((((he2.x (bM _)).x (bM _)).x hx5).one hc6 (by omega)).x (bM _)).one hc7 (by omega)).one hc8 (by omega)
 by_cases hq:s.quiet=true
 ·refine h3.ld (v:=.bool true) (by simp[hq]) ?_;simp only[lI,Jb];refine⟨_,rfl,_,rfl,_,rfl,vt,by rw[eC];exact⟨vt,by rw[bO,cP,h3.ps,cM];rfl,rfl⟩,_,rfl,_,rfl,_,rfl,i64 (j:Nat),by rw[eC];exact⟨_,by rw[bO,cP,h3.ps,cM];rfl,rfl⟩,?_⟩;obtain⟨q,cap,hv,g1,g2,g3⟩:=sl;have hne:toks s.toks≠[]:=λe=>by have:=congrArg List.length e;rw[Bl,aC]at this;omega
  obtain⟨tb,o,c,fr,rfl,htb,hcs⟩:=g3 hne;have hlen:(toks s.toks).length=s.toks.length*3:=Bl _;refine⟨.pointer (some ((⟨tb,o,none⟩:Addr).add (j*3))),?_,.pointer (some (((⟨tb,o,none⟩:Addr).add (j*3)).add 0)),rfl,i64 t.k,?_,.bool (decide (t.k=5)),by rw[bI],?_⟩
  ·rw[hv,wM];exact⟨by omega,by omega,by rw[aP]⟩
  ·rw[eC];refine⟨_,?_,rfl⟩;rw[bO,bO,cP,htb,cM,gF,hcs _ (by omega)];have:=EW (j:=0) ht (by omega);rw[gF]at this;exact this
  rw[pD,aN];refine⟨λhk=>?_,λhk=>stop ?_⟩
  ·have hrun:aM {s with i:=j+1}=aM s:=by
    rw[<-hnow];unfold aM;simp only[hq,gY];have e:=rV ht;rw[aF hk]at e;rw[e];congr 1;omega
   refine h3.go (wsi hws hl) λw4 h4 he4 hz4=>?_;refine⟨⟨trivial,j+1,h4,by omega,hrun,?_,(he2.x (bM _)).trans he4,L2.drew.eff he4⟩,?_⟩
   ·rw[<-hrun];exact FS {s with i:=j+1}
   ·rw[h4.at_,h2.at_];simp only[step1];omega
  ·have e:=rV ht;rw[aD hk]at e;unfold aM;simp only[hq,gY,e,gF]
 ·have hq:s.quiet=false:=by simpa using hq
  refine h3.ld (v:=.bool false) (by simp[hq]) ?_;simp only[lI,Ra];rw[kY,cQ];exact stop (by unfold aM;simp only[hq];rfl)
end
end
theorem vU{xs:List Value}(h:gE w T v n xs)(hc:Chg S w w')(hS:∀k,v.ownBlock=some k->¬S k):gE w' T v n xs:=by
 obtain⟨q,cap,hv,h1,h2,h3⟩:=h;refine⟨q,cap,hv,h1,h2,λhne=>?_⟩;obtain⟨b,off,c,fr,hq,hb,hcs⟩:=h3 hne;exact⟨b,off,c,fr,hq,hc.at hb (hS b (by rw[hv,hq];rfl)),hcs⟩
def Wd(w0 w:World)(p f:Nat)(M:Lay)(vt:Value)(v:Value)(T:TypeId)(n:Nat)(cs:List Value):Prop:=gE w T v n cs/\∀k,v.ownBlock=some k->Off w0 w p f M vt k
theorem upi(h:i<=4611686018427387904):IntKind.i64.wrap ((i:Int)+1)=((i+1:Nat):Int):=by rw[dF (by omega) (by omega)];rfl
def qB:List Str->Str->Nat->Int
 |[],_,_=>-1
 |a::r,x,i=>if x=a then(i:Nat)else qB r x (i+1)
theorem Fb(x:Str):∀(l:List Str) (i:Nat),(0<=qB l x i↔x∈l)
 |[],i=>by simp[qB]
 |a::r,i=>by
  simp only[qB]
  split
  ·rename_i h
   simp[h]
  ·rename_i h
   rw[Fb x r (i+1)]
   simp[h]
theorem sA{x:Str}{K:Q0}(hK:∀b w',b=w.heap.size->w'.heap.size=w.heap.size+1->w'.heap[b]?=some (.cells [str x].toArray StT (0,0))->Ext w w'->K (.slice (some ⟨b,0,none⟩) 1 1) w'):fH StT 1 [(.string (ofL []))] [(0,1,str x)] w K:=by
 rw[fH];simp only[eA,dQ,aA,aC,aR];refine⟨by omega,?_⟩;exact row_new λa w' ha hz hb hx _=>hK a w' ha hz hb hx
theorem jC{x:Int}{K:Q0}(hK:∀b w',b=w.heap.size->w'.heap.size=w.heap.size+1->w'.heap[b]?=some (.cells [i64 x].toArray gS (0,0))->Ext w w'->K (.slice (some ⟨b,0,none⟩) 1 1) w'):fH gS 1 [(.int .i64 0)] [(0,1,i64 x)] w K:=by
 rw[fH];simp only[dJ,dQ,aA,aC,aR];refine⟨by omega,?_⟩;exact row_new λa w' ha hz hb hx _=>hK a w' ha hz hb hx
theorem Gt{x y:Int}{K:Q0}(hK:∀b w',b=w.heap.size->w'.heap.size=w.heap.size+1->w'.heap[b]?=some (.cells [i64 x,i64 y].toArray gS (0,0))->Ext w w'->K (.slice (some ⟨b,0,none⟩) 2 2) w'):fH gS 2 [(.int .i64 0),(.int .i64 0)] [(0,1,i64 x),(1,1,i64 y)] w K:=by
 rw[fH];simp only[dJ,dQ,aA,aC,aR,aV];refine⟨by omega,by omega,?_⟩;exact row_new λa w' ha hz hb hx _=>hK a w' ha hz hb hx
theorem Ml{x y z:Int}{K:Q0}(hK:∀b w',b=w.heap.size->w'.heap.size=w.heap.size+1->w'.heap[b]?=some (.cells [i64 x,i64 y,i64 z].toArray gS (0,0))->Ext w w'->K (.slice (some ⟨b,0,none⟩) 3 3) w'):fH gS 3 [(.int .i64 0),(.int .i64 0),(.int .i64 0)] [(0,1,i64 x),(1,1,i64 y),(2,1,i64 z)] w K:=by
 rw[fH];simp only[dJ,dQ,aA,aC,aR,aV];refine⟨by omega,by omega,by omega,?_⟩;exact row_new λa w' ha hz hb hx _=>hK a w' ha hz hb hx
theorem zJ{z d:List Value}{K:Q0}(hd:d.length=n)(hz0:z.length=n)(hK:∀b w',b=w.heap.size->w'.heap.size=w.heap.size+1->w'.heap[b]?=some (.cells d.toArray T (0,0))->Ext w w'->K (.slice (some ⟨b,0,none⟩) 1 1) w'):fH T 1 z [(0,n,.agg d.toArray)] w K:=by
 rw[fH];simp only[gJ,Value.cells];refine⟨by simpa using hd,by omega,?_⟩;have e:(z.take 0++(d++z.drop (0+n)))=d:=by rw[oN,cI,aQ,<-hz0,jY,cH]
 rw[e];exact row_new λa w' ha hz hb hx _=>hK a w' ha hz hb hx
theorem yF{b:Nat}(h:w.heap[b]?=some (.cells cs.toArray T (0,0)))(hn:cs.length=n):gE w T (.slice (some ⟨b,0,none⟩) n n) n cs:=
 ⟨_,_,rfl,aL _,λe=>(by cases e),λ_=>⟨b,0,cs.toArray,_,rfl,h,λi _=>by simp⟩⟩
theorem Ll{B b m:Nat}(h:w.heap[b]?=some (.cells cs.toArray T (0,0)))(hB:B<=b)(hn:cs.length=n*m)(hm:n<=1000000):Own w B T m (.slice (some ⟨b,0,none⟩) n n) n cs:=
 ⟨hn,.inr ⟨b,n,cs.toArray,rfl,hB,h,aL _,by unfold maxLen;omega,by simpa using hn,by simp[<-hn]⟩⟩
theorem Em{f:Nat}{a a' b d:List Nat}(h:(f::(a++b)).Nodup)(hlt:∀k∈f::(a++b),k<n)(ha':a'.Nodup)(hn:∀k∈a',k∈a\/n<=k)(hd:d.Nodup)(hdd:∀k∈d,k<n/\k∉f::(a++b)):(f::(a'++(d++b))).Nodup:=by
 rw[jO,fL]at h;obtain⟨hf,_,hb,hab⟩:=h;have new:∀k∈a',k∉b/\k≠f/\k∉d:=λk hk=>by
  rcases hn k hk with hk|hk
  ·exact⟨λe=>hab k hk k e rfl,λe=>hf (e▸dI _ hk),λe=>(hdd k e).2 (aK _ (dI _ hk))⟩
  ·exact⟨λe=>by have:=hlt k (aK _ (bV _ e));omega,λe=>by have:=hlt k (by rw[e];exact aX);omega,λe=>by have:=(hdd k e).1;omega⟩
 rw[jO];refine⟨λe=>?_,?_⟩
 ·rcases bQ.1 e with e|e
  ·exact(new f e).2.1 rfl
  rcases bQ.1 e with e|e
  ·exact(hdd f e).2 aX
  ·exact hf (bV _ e)
 ·refine fL.2 ⟨ha',fL.2 ⟨hd,hb,λx hx y hy e=>?_⟩,λx hx y hy e=>?_⟩
  ·subst e;exact(hdd x hx).2 (aK _ (bV _ hy))
  ·subst e;rcases bQ.1 hy with hy|hy
   ·exact(new x hx).2.2 hy
   ·exact(new x hx).1 hy
theorem tE(v:Value)(c:List Value):ub (v::c)=ub [v]++ub c:=by
 rw[<-sC];rfl
theorem lK(v:Value):(ub [v]).Nodup:=by
 unfold ub;cases h:v.ownBlock with
 |none=>simp[h]
 |some k=>simp[h]
theorem GH(M:Lay)(f:Nat):M.uses f=f::(ub [M.vE]++ub ([M.vB,M.vT]++(M.cE++M.cB))):=by
 unfold Lay.uses;rw[dC,tE]
theorem MM(M:Lay)(f:Nat)(v:Value)(d:List Value):(({M with vE:=v,cE:=M.cE++d}:Lay).uses f).Perm (f::(ub [v]++(ub d++ub ([M.vB,M.vT]++(M.cE++M.cB))))):=by
 rw[tB];intro a;rw[GH];simp only[sC,jH,AM];omega
theorem GI(M:Lay)(f:Nat):(M.uses f).Perm (f::(ub [M.vB]++ub ([M.vE,M.vT]++(M.cE++M.cB)))):=by
 rw[tB];intro a;unfold Lay.uses;simp only[sC,jH,AM];rw[tE M.vE,tE M.vB,tE M.vE [M.vT]];simp only[jH];omega
theorem MN(M:Lay)(f:Nat)(v:Value)(d:List Value):(({M with vB:=v,cB:=M.cB++d}:Lay).uses f).Perm (f::(ub [v]++(ub d++ub ([M.vE,M.vT]++(M.cE++M.cB))))):=by
 rw[tB];intro a;rw[(GI _ f).count_eq];simp only[sC,jH,AM];omega
section
variable{w0 w w1 w2:World}{p f:Nat}{M:Lay}{vt:Value}{s:PS}{top:List Nat}
theorem PR.putE(h:PR w0 w p f M vt s top){wb:World}{M0:Lay}(he:Eff p f M0 M wb w){e:Ex}{d:List Value}{v':Value}(hd:ExR w w0.heap.size e d)(hu:∀k∈ub d,Off w0 w p f M vt k)(hn:(ub d).Nodup)(hnew:∀k∈ub d,wb.heap.size<=k)
  (hO:Own w1 w0.heap.size ExT 5 v' (s.ex.length+1) (M.cE++d))(hc1:Chg (λk=>M.vE.ownBlock=some k) w w1)(hv:∀k,v'.ownBlock=some k->M.vE.ownBlock=some k\/w.heap.size<=k)
  (hc2:Chg (One f) w1 w2)(hf:w2.heap[f]?=some (.cells [v',M.vB,M.vT].toArray FlT (0,0))):PR w0 w2 p f {M with vE:=v',cE:=M.cE++d} vt {s with ex:=s.ex++[e]} top/\Eff p f M0 {M with vE:=v',cE:=M.cE++d} wb w2/\∀b T cs,Loc w0 w p f M vt b T cs->b∉ub d->Loc w0 w2 p f {M with vE:=v',cE:=M.cE++d} vt b T cs:=by
 have hb:=h.base;have hzb:=he.chg.size;have eE:=GH M f;have use:∀k,M.vE.ownBlock=some k->k∈M.uses f:=λk hk=>aK _ (kF (v:=M.vE) (by simp) hk);have hnd:=h.fr.nd;rw[eE,jO,fL]at hnd;obtain⟨nf,_,nb,nab⟩:=hnd;have rest:∀k∈ub ([M.vB,M.vT]++(M.cE++M.cB)),M.vE.ownBlock≠some k/\k≠f/\k<w.heap.size:=λk hk=>
  ⟨λe=>nab k (fX.2 e) k hk rfl,λe=>nf (e▸bV _ hk),h.fr.lt k (by rw[eE];exact aK _ (bV _ hk))⟩
 have c12:Chg (λk=>M.vE.ownBlock=some k\/k=f) w w2:=(hc1.mono λk _ e=>.inl e).trans (hc2.mono λk _ e=>.inr e);have sub:∀v∈[M.vB,M.vT]++(M.cE++M.cB),∀k,v.ownBlock=some k->¬(M.vE.ownBlock=some k\/k=f):=λv hv k hk e=>by
  have:=rest k (kF hv hk);exact e.elim this.1 this.2.1
 have hOf:∀k,v'.ownBlock=some k->k≠f:=λk hk e=>by
  subst e;rcases hv k hk with e|e
  ·exact nf (dI _ (fX.2 e))
  ·have:=vP h.fr.hf;omega
 have nE:M.vE.ownBlock≠some p:=λe=>h.np (use p e);have pf:p≠f:=λe=>h.np (e▸aX);have perm:=MM M f v' d;have hN:(f::(ub [v']++(ub d++ub ([M.vB,M.vT]++(M.cE++M.cB))))).Nodup:=Em (n:=w.heap.size) (a:=ub [M.vE]) (by rw[<-eE];exact h.fr.nd) (λk hk=>h.fr.lt k (by rw[eE];exact hk)) (lK _) (λk hk=>(hv k (fX.1 hk)).imp (λe=>fX.2 e) id) hn λk hk=>⟨(hu k hk).1.2,by rw[<-eE];exact(hu k hk).2.2.1⟩;have hz:=c12.size;have mem:∀k∈({M with vE:=v',cE:=M.cE++d}:Lay).uses f,k=f\/v'.ownBlock=some k\/k∈ub d\/k∈ub ([M.vB,M.vT]++(M.cE++M.cB)):=λk hk=>by
  have hk:=perm.mem_iff.1 hk;rcases bC.1 hk with e|e
  ·exact .inl e
  rcases bQ.1 e with e|e
  ·exact .inr (.inl (fX.1 e))
  rcases bQ.1 e with e|e
  ·exact .inr (.inr (.inl e))
  ·exact .inr (.inr (.inr e))
 have cT:Chg (Tn p f M) w w2:=c12.mono λk _ e=>e.elim (λe=>.inr (.inr (.inl e))) λe=>.inr (.inl e);refine⟨⟨?_,⟨hf,?_,?_,?_,?_,?_,perm.nodup_iff.2 hN,λk hk=>?_,λk hk=>?_⟩,?_,?_,λe=>?_,h.lo,λk hk=>?_⟩,⟨(he.trans (Eff.of cT)).chg,λk hk=>?_,λk hk=>(hv k hk).elim (he.hE k) λe=>.inr (by omega),he.hB,he.hT⟩,λb T cs hL hbd=>⟨cT.at hL.1 hL.2.no,⟨hL.2.1.1,bX hL.2.1.2 hz⟩,hL.2.2.1,λhk=>?_,hL.2.2.2.2⟩⟩
 ·refine h.ch.then c12 λk hk e=>?_;rcases e with e|e
  ·exact(h.fr.lo k (use k e)).resolve_right (by omega)
  ·exact e
 ·rw[aB];exact iG hO hc2 λk hk e=>hOf k hk e
 ·exact iG h.fr.oB c12 (sub _ (by simp))
 ·exact iG h.fr.oT c12 (sub _ (by simp))
 ·refine nH.snoc ?_ (hd.at_ c12 λk hk e=>?_) (by obtain⟨va,vk,rfl,_⟩:=hd;rfl)
  ·refine h.fr.ee.imp λx d hd hx=>hx.at_ c12 λk hk=>?_;obtain⟨v,hv,hk⟩:=fT.1 hk;exact sub v (by simp[hd v hv]) k hk
  ·have ho:=(hu k hk).2.2.1;rcases e with e|e
   ·exact ho (use k e)
   ·exact ho (e▸aX)
 ·refine h.fr.bb.imp λx d hd hx=>hx.at_ c12 λk hk=>?_;obtain⟨v,hv,hk⟩:=fT.1 hk;exact sub v (by simp[hd v hv]) k hk
 ·rcases mem k hk with e|e|e|e
  ·rw[e];exact vP hf
  ·exact bX (pF hO e).1 hc2.size
  ·exact bX (hu k e).1.2 hz
  ·exact bX (rest k e).2.2 hz
 ·rcases mem k hk with e|e|e|e
  ·exact .inl e
  ·exact .inr (pF hO e).2
  ·exact .inr (hu k e).1.1
  ·exact h.fr.lo k (by rw[eE];exact aK _ (bV _ e))
 ·exact c12.at h.ps λe=>e.elim nE pf
 ·exact vU h.tk c12 λk hk e=>by
   have:=(h.nt k hk).1;rcases e with e|e
   ·exact this (use k e)
   ·exact this (e▸aX)
 ·rcases mem p e with e|e|e|e
  ·exact pf e
  ·exact(hv p e).elim nE λe=>by have:=h.lt;omega
  ·exact(hu p e).2.1 rfl
  ·exact h.np (by rw[eE];exact aK _ (bV _ e))
 ·have ht:=h.nt k hk;refine⟨λe=>?_,ht.2.1,bX ht.2.2 hz⟩;rcases mem k e with e|e|e|e
  ·exact ht.1 (e▸aX)
  ·exact(hv k e).elim (λe=>ht.1 (use k e)) λe=>by omega
  ·exact(hu k e).2.2.2 hk
  ·exact ht.1 (by rw[eE];exact aK _ (bV _ e))
 ·rcases mem k hk with e|e|e|e
  ·exact he.us k (e▸aX)
  ·exact(hv k e).elim (λe=>he.us k (use k e)) λe=>.inr (by omega)
  ·exact .inr (hnew k e)
  ·exact he.us k (by rw[eE];exact aK _ (bV _ e))
 ·have ho:=hL.2;rcases mem b hk with e|e|e|e
  ·exact ho.2.2.1 (e▸aX)
  ·exact(hv b e).elim (λe=>ho.2.2.1 (use b e)) λe=>by have:=ho.1.2;omega
  ·exact hbd e
  ·exact ho.2.2.1 (by rw[eE];exact aK _ (bV _ e))
end
section
variable [HX]
variable{w0 w:World}{p f:Nat}{M:Lay}{vt:Value}{s:PS}{top:List Nat}{N:Int}{K:Q0}
theorem IA{l:List Str}{x:Str}{K:Q0}(h:gE w T v l.length (strs l))(hl:l.length<=1000000)(hK:K (i64 (qB l x 0)) w):aI P0 154 [v,str x] w K:=by
 refine Qc ?_;unfold Vv;rw[fD h];refine dD.go (λst w'=>∃j:Nat,st=[i64 j]/\j<=l.length/\w'=w/\qB (l.drop j) x j=qB l x 0) (λst _=>match st with|[.int _ j]=>l.length-j.toNat|_=>0) ⟨0,rfl,by omega,rfl,rfl⟩ ?_;rintro st g w' ⟨j,rfl,hj,rfl,hs⟩;simp only[aE];rw[eL,aN];refine⟨λhlt=>?_,λhge=>?_⟩
 ·have hlt:j<l.length:=by omega
  refine kM (x:=str l[j]) h (by simp[strs]) (by simp[strs,hlt]) ?_;rw[fS hlt]at hs;simp only[qB]at hs;rw[oD,aN];refine⟨λe=>?_,λe=>?_⟩
  ·rw[aF e]at hs;rw[hs];exact hK
  ·rw[aD e]at hs;rw[bU,upi (by omega)];exact⟨⟨j+1,rfl,by omega,trivial,hs⟩,by simp only[aP];omega⟩
 ·rw[dO (by omega)]at hs;simp only[qB]at hs;rw[hs];exact hK
theorem AD{l:List Str}{x:Str}{K:Q0}(h:gE w T v l.length (strs l))(hl:l.length<=1000000)(hK:K (.bool (decide (x∈l))) w):aI P0 117 [v,str x] w K:=by
 refine Ql ?_;unfold VD;refine IA h hl ?_;rw[oF];simp only[Fb];exact hK
theorem Hl(h:PR w0 w p f M vt s top)(hs:WS N s)(hN:N<=1000000)(hl:s.toks.length<=100000)(hK:∀w',PR w0 w' p f M vt (fB s) top->Eff p f M M w w'->K (.agg (eK (cur s)).toArray) w'):
  aI P0 64 [.pointer (some ⟨p,0,none⟩)] w K:=by
 refine TE ?_;unfold W64;refine bN λb w1 hb hz1 hbb hx1=>?_;have h1:=h.ext hx1;have L1:=h.loc hz1 hb hbb;refine mG h1 hs hN hl λw2 h2 he2=>?_;have L2:=L1.eff he2;refine bN λb2 w3 hb2 hz3 hbb3 hx3=>?_;have h3:=h2.ext hx3;have L3:=h2.loc hz3 hb2 hbb3;have hne:b≠b2:=by have:=L2.lt;omega
 have L23:=L2.ext hx3;refine cL (l:=eK (cur s)) L3.1 rfl rfl rfl λw4 hz4 hb4 hc4=>?_;have L4:Loc w0 w4 p f M vt b2 TkT (eK (cur s)):=⟨hb4,L3.2.up (by omega)⟩;have h4:=h3.one hc4 L3.2;have L24:=L23.one hc4 hne;have he4:Eff p f M M w w4:=(((Eff.ext hx1).trans he2).x hx3).one hc4 (by have:=he2.chg.size;omega);refine cK.cut (λ_ w'=>PR w0 w' p f M vt (fB s) top/\Eff p f M M w4 w') ?_ ?_
 ·refine L4.ldf rfl ?_;rw[gL,aN];unfold fB;refine⟨λhk=>?_,λhk=>?_⟩
  ·rw[aF hk];exact h4.go (wsi ((eW hs).ws hs) (by rw[(eW hs).toks];exact hl)) λw5 h5 he5 _=>⟨h5,he5⟩
  ·rw[aD hk];exact⟨h4,Eff.refl _ _ _ _⟩
 rintro st g w5 ⟨h5,he5⟩;have L5:=L4.eff he5;have L25:=L24.eff he5;refine fY L5.1 rfl ?_;refine AT (l:=eK (cur s)) L25.1 rfl rfl rfl λw6 hc6=>?_;exact hK w6 (h5.one hc6 L25.2) ((he4.trans he5).one hc6 (by omega))
theorem SX{x:Str}(h:PR w0 w p f M vt s top)(hs:WS N s)(hN:N<=1000000)(hl:s.toks.length<=100000)(hv:Wd w0 w p f M vt v StT 1 [str x])(hK:∀w',PR w0 w' p f M vt (aM s) top->Eff p f M M w w'->K (.bool (isS s x)) w'):
  aI P0 65 [.pointer (some ⟨p,0,none⟩),v] w K:=by
 refine TD ?_;unfold W65;refine mG h hs hN hl λw1 h1 he1=>?_;refine bN λb w2 hb hz2 hbb hx2=>?_;have h2:=h1.ext hx2;have L2:=h1.loc hz2 hb hbb;refine cL (l:=eK (cur s)) L2.1 rfl rfl rfl λw3 hz3 hb3 hc3=>?_;have L3:Loc w0 w3 p f M vt b TkT (eK (cur s)):=⟨hb3,L2.2.up (by omega)⟩;have h3:=h2.one hc3 L2.2;have he3:Eff p f M M w w3:=(he1.x hx2).one hc3 (by have:=he1.chg.size;omega);have sl3:gE w3 StT v 1 [str x]:=vU hv.1 he3.chg λk hk=>(hv.2 k hk).no;refine L3.ldf rfl ?_;rw[bI];refine GdW.look (decide ((cur s).t=x)) (λ_ J hJ=>?_) λg=>?_
 ·refine L3.ldf rfl ?_;refine AD (l:=[x]) sl3 (by simp) ?_;simpa using hJ
 ·simp only[aE,lI];rw[iW];exact hK w3 h3 he3
theorem sD{x:Str}(h:PR w0 w p f M vt s top)(hs:WS N s)(hN:N<=1000000)(hl:s.toks.length<=100000)(hK:∀w',PR w0 w' p f M vt (aW s x).2 top->Eff p f M M w w'->K (.bool (aW s x).1) w'):
  aI P0 68 [.pointer (some ⟨p,0,none⟩),str x] w K:=by
 refine Tz ?_;unfold W68;refine sA λb w1 hb hz1 hbb hx1=>?_;have h1:=h.ext hx1;have L1:=h.loc hz1 hb hbb;refine SX h1 hs hN hl ⟨yF hbb rfl,λk hk=>by simp only[Value.ownBlock,bD]at hk;subst hk;exact L1.2⟩ λw2 h2 he2=>?_;have he:=(Eff.ext hx1).trans he2;unfold aW at hK;rw[iN,cU];refine⟨λe=>?_,λe=>?_⟩
 ·have e:isS s x=false:=by simpa using e
  rw[aD (by rw[e];decide)]at hK;exact hK w2 h2 he
 ·have e:isS s x=true:=by simpa using e
  rw[aF e]at hK;exact h2.go (wsi ((eW hs).ws hs) (by rw[(eW hs).toks];exact hl)) λw3 h3 he3 _=>hK w3 h3 (he.trans he3)
theorem uP{x:Str}(h:PR w0 w p f M vt s top)(hs:WS N s)(hN:N<=1000000)(hl:s.toks.length<=100000)(hK:∀s',jR s x=.ok () s'->∀w',PR w0 w' p f M vt s' top->Eff p f M M w w'->K (.tuple #[]) w')(ht:∀c a,jR s x=.err c a->Thr w0 f c a):
  aI P0 157 [.pointer (some ⟨p,0,none⟩),str x] w K:=by
 refine Qa ?_;unfold Vt;refine sD h hs hN hl λw1 h1 he1=>?_;unfold aW at h1 he1⊢;unfold jR at hK ht;rw[iN,cU];by_cases e:isS s x=true
 ·simp only[aF e]at h1 he1 hK ht⊢;exact⟨λe=>(by cases e),λ_=>hK _ rfl w1 h1 he1⟩
 ·simp only[aD e]at h1 he1 hK ht⊢;refine⟨λ_=>?_,λe=>(by cases e)⟩;refine mG h1 ((eW hs).ws hs) hN (by rw[(eW hs).toks];exact hl) λw2 h2 he2=>?_;rw[kD];refine⟨i64 (cur s).a,rfl,?_⟩;exact pI h2 (ht _ _ rfl)
theorem vA{k:Int}(h:PR w0 w p f M vt s top)(hs:WS N s)(hN:N<=1000000)(hl:s.toks.length<=100000)(hK:∀t s',iC s k=.ok t s'->∀w',PR w0 w' p f M vt s' top->Eff p f M M w w'->K (.agg (eK t).toArray) w')(ht:∀c a,iC s k=.err c a->Thr w0 f c a):
  aI P0 62 [.pointer (some ⟨p,0,none⟩),i64 k] w K:=by
 refine TH ?_;unfold W62;refine bN λb w1 hb hz1 hbb hx1=>?_;have h1:=h.ext hx1;have L1:=h.loc hz1 hb hbb;have hsn:=(eW hs).ws hs;have hln:(aM s).toks.length<=100000:=by rw[(eW hs).toks];exact hl
 unfold iC at hK ht;refine cK.cut (λ_ w'=>PR w0 w' p f M vt (aM s) top/\Eff p f M M w1 w'/\(cur s).k=k) ?_ ?_
 ·refine mG h1 hs hN hl λw2 h2 he2=>?_;refine⟨i64 (cur s).k,rfl,?_⟩;dsimp only;rw[gL,aN];refine⟨λe=>?_,λe=>⟨h2,he2,by omega⟩⟩;refine mG h2 hsn hN hln λw3 h3 he3=>?_;rw[kD];refine⟨i64 (cur s).a,rfl,?_⟩;exact pI h3 (ht _ _ (by rw[aD e]))
 rintro st g w2 ⟨h2,he2,hk⟩;rw[aF hk]at hK;refine Hl h2 hsn hN hln λw3 h3 he3=>?_;rw[kD];have L3:=(L1.eff he2).eff he3;refine AT (l:=eK (cur s)) L3.1 rfl rfl rfl λw4 hc4=>?_;have e:fB (aM s)=fB s:=by unfold fB;rw[kD,fW]
 rw[e]at h3;exact hK _ _ rfl w4 (h3.one hc4 L3.2) ((((Eff.ext hx1).trans he2).trans he3).one hc4 (by omega))
end
end
end Go.Proofs.YtjblfcfdeaagpaaGreatDoor
namespace Go.Syn
section
open Go Go.Eng Go.Lex
variable{w:World}{K:Q0}{cs:List Value}{G:Nat->Prop}{T:TypeId}{i:Nat}{n:Nat}{v:Value}{w':World}{P:Program}{c:UInt8}{S:Nat->Prop}
def pW:Str->Bool
 |[]=>true
 |[c]=>c !=92
 |c::e::r=>if c=92 then pW r else pW (e::r)
theorem JS{r:Str}(hc:c≠92)(h:pW r=true):pW (c::r)=true:=by
 cases r with
 |nil=>simp[pW,hc]
 |cons e r=>simp only[pW];rw[aD hc];exact h
theorem BF:∀(n:Nat) (t:Str),t.length<=n->noD t=true->pW t=true
 |_,[],_,_=>rfl
 |_,[c],_,h=>by simp only[noD,aZ]at h;exact h.1
 |0,c::e::r,h,_=>by simp at h
 |n+1,c::e::r,h,hd=>by
  simp only[noD]at hd
  simp only[aA]at h
  simp only[pW]
  split at hd
  ·rename_i hc
   rw[aF hc]
   exact BF n r (by omega) hd
  ·rename_i hc
   rw[aD hc]
   simp only[aZ]at hd
   exact BF n (e::r) (by simp only[aA];omega) hd.2
theorem qH{c':UInt8}{r r':Str}{k:Nat}(h:(c'::r').take (k+1)=(c::r).take (k+1)):c'=c/\r'.take k=r.take k:=by
 simp only[lO,fF]at h;exact h
theorem mC{r r':Str}{k j m:Nat}(h:r'.take k=r.take k)(hk:j+m<=k):(r'.drop j).take m=(r.drop j).take m:=by
 have e:∀s:Str,(s.drop j).take m=((s.take k).drop j).take m:=λs=>by
  rw[List.drop_take,List.take_take,Nat.min_eq_left (by omega)]
 rw[e r',e r,h]
theorem Fz{x x':UInt8}{r r':Str}(h:x=x'):kW [36,123] (c::x::r)=kW [36,123] (c::x'::r'):=by
 subst h;simp[kW,List.isPrefixOf]
theorem Uu:∀(N:Nat) (r r':Str),r.length<=N->
  (∀d k,dW r d=(k,0)->r'.take k=r.take k->k<=r'.length->dW r' d=(k,0))/\
  (∀d k,hM r d=(k,0)->r'.take k=r.take k->k<=r'.length->hM r' d=(k,0)):=by
 intro N;induction N with
 |zero=>
  intro r r' hr;have:r=[]:=bY (by omega);subst this;exact⟨λd k h=>(by rw[oW]at h;cases h),λd k h=>(by rw[BS]at h;cases h)⟩
 |succ N ih=>
  intro r r' hr;cases r with
  |nil=>exact ih [] r' (by simp)
  |cons c r=>
   simp only[aA]at hr;have hr:r.length<=N:=by omega
   have sh:∀{k:Nat},1<=k->r'.take k=(c::r).take k->k<=r'.length->∃r2,r'=c::r2/\r2.take (k-1)=r.take (k-1)/\k-1<=r2.length:=λ{k} hk ht hl=>by
    cases r' with
    |nil=>simp at hl;omega
    |cons c' r2=>
     obtain⟨j,rfl⟩:∃j,k=j+1:=⟨k-1,by omega⟩;obtain⟨rfl,h2⟩:=qH ht;exact⟨r2,rfl,h2,by simpa using hl⟩
   refine⟨λd k h ht hl=>?_,λd k h ht hl=>?_⟩
   ·have hk:=((iE _ (c::r) (aL _)).1 d k h).2.1;obtain⟨r2,rfl,h2,hl2⟩:=sh hk ht hl;rw[iF]at h⊢;simp only[fI]at h⊢;split at h
    ·rename_i e;rw[aF e];exact h
    rename_i e;rw[aD e];split at h
    ·cases h
    rename_i e1;rw[aD e1];split at h
    ·rename_i e2;rw[aF e2];cases r with
     |nil=>cases h
     |cons x rr=>
      simp only at h;split at h
      ·rename_i e3;obtain⟨g1,g2⟩:=lN h;have gk:=((iE _ rr (aL _)).1 d _ g1).2.1;cases r2 with
       |nil=>simp at hl2;omega
       |cons x' rr'=>
        obtain⟨j,rfl⟩:∃j,k=j+2:=⟨k-2,by omega⟩;rw[show j+2-1=j+1 by omega]at h2 hl2;obtain⟨rfl,h3⟩:=qH h2;simp only[aF e3];have:=(ih rr rr' (by simp at hr;omega)).1 d j (by simpa using g1) h3 (by simpa using hl2);rw[this];unfold iT;simp
      ·cases h
    rename_i e2;rw[aD e2];split at h
    ·rename_i e3;split at h
     ·cases h
     rename_i e24;split at h
     ·rename_i e4;obtain⟨g1,g2⟩:=lN h;have gk:=((iE _ _ (aL _)).1 d _ g1).2;have gi:=((iE _ (r.drop 1) (aL _)).2 (d+1) _ (eO rfl e4)).1;cases r with
      |nil=>simp[kW]at e3
      |cons x rr=>
       cases r2 with
       |nil=>simp at hl2;omega
       |cons x' rr'=>
        obtain⟨j,rfl⟩:∃j,k=j+2:=⟨k-2,by omega⟩;rw[show j+2-1=j+1 by omega]at h2 hl2;obtain⟨rfl,h3⟩:=qH h2;simp only[bG,bJ]at g1 gk gi e4⊢;have hl3:j<=rr'.length:=by simpa using hl2
        have hp:kW [36,123] (c::x'::rr')=true:=by rw[Fz (r':=rr) rfl];exact e3
        have hrr:rr.length<=N:=by simp at hr;omega
        have hi:=(ih rr rr' hrr).2 (d+1) (hM rr (d+1)).1 (eO rfl e4) (by have:=mC (j:=0) (m:=(hM rr (d+1)).1) h3 (by omega);simpa using this) (by omega);rw[aF hp,aD e24,hi];simp only;have ht:=(ih (rr.drop (hM rr (d+1)).1) (rr'.drop (hM rr (d+1)).1) (kC _ hrr)).1 d _ g1 (mC h3 (by omega)) (by rw[aJ];omega);rw[ht];unfold iT;simp;omega
     ·rename_i e4;injection h with _ h2
      exact absurd h2 e4
    ·rename_i e3;obtain⟨g1,g2⟩:=lN h;have gk:=((iE _ _ (aL _)).1 d _ g1).2;have hp:¬kW [36,123] (c::r2)=true:=by
      cases r with
      |nil=>rw[oW]at g1;exact absurd (congrArg Prod.snd g1) (by simp)
      |cons x rr=>
       cases r2 with
       |nil=>simp at hl2;omega
       |cons x' rr'=>
        obtain⟨j,hj⟩:∃j,k-1=j+1:=⟨k-2,by omega⟩;rw[hj]at h2;obtain⟨rfl,_⟩:=qH h2;rw[Fz (r':=rr) rfl];exact e3
     rw[aD hp];have:=(ih r r2 hr).1 d (k-1) g1 h2 hl2;rw[this];unfold iT;simp;omega
   ·have hk:=((iE _ (c::r) (aL _)).2 d k h).1.1;obtain⟨r2,rfl,h2,hl2⟩:=sh hk ht hl;rw[nC]at h⊢;simp only[fI]at h⊢;split at h
    ·rename_i e;rw[aF e];exact h
    rename_i e;rw[aD e];split at h
    ·cases h
    rename_i e1;rw[aD e1];split at h
    ·rename_i e2;rw[aF e2];split at h
     ·cases h
     rename_i e24;rw[aD e24];split at h
     ·rename_i e4;obtain⟨g1,g2⟩:=lN h;have gk:=((iE _ _ (aL _)).2 d _ g1).1;have hi:=(ih r r2 hr).2 (d+1) (hM r (d+1)).1 (eO rfl e4) (by have:=mC (j:=0) (m:=(hM r (d+1)).1) h2 (by omega);simpa using this) (by omega);rw[hi];simp only[gY];have ht:=(ih (r.drop (hM r (d+1)).1) (r2.drop (hM r (d+1)).1) (kC _ hr)).2 d _ g1 (mC h2 (by omega)) (by rw[aJ];omega);rw[ht];unfold iT;simp;omega
     ·rename_i e4;injection h with _ h2
      exact absurd h2 e4
    rename_i e2;rw[aD e2];split at h
    ·rename_i e3;rw[aF e3];split at h
     ·rename_i e4;obtain⟨g1,g2⟩:=lN h;have gk:=((iE _ _ (aL _)).2 d _ g1).1;have hi:=(ih r r2 hr).1 d (dW r d).1 (eO rfl e4) (by have:=mC (j:=0) (m:=(dW r d).1) h2 (by omega);simpa using this) (by omega);rw[hi];simp only[gY];have ht:=(ih (r.drop (dW r d).1) (r2.drop (dW r d).1) (kC _ hr)).2 d _ g1 (mC h2 (by omega)) (by rw[aJ];omega);rw[ht];unfold iT;simp;omega
     ·rename_i e4;injection h with _ h2
      exact absurd h2 e4
    ·rename_i e3;rw[aD e3];obtain⟨g1,g2⟩:=lN h;have:=(ih r r2 hr).2 d (k-1) g1 h2 hl2;rw[this];unfold iT;simp;omega
def Scd(t:Str):Prop:=∃d,dW (t++[34]) d=(t.length+1,0)
theorem KJ{r:Str}{d k:Nat}(h:dW r d=(k,0))(hl:∀b,r[k-1]?=some b->b=34):Scd (r.take (k-1)):=by
 obtain⟨_,h1,h2⟩:=(iE _ r (aL _)).1 d k h;obtain⟨j,rfl⟩:∃j,k=j+1:=⟨k-1,by omega⟩;rw[Nat.add_sub_cancel]at hl⊢;have e1:(r.take j).length=j:=by rw[cG];omega
 have hlt:j<r.length:=by omega
 have e2:r.take j++[34]=r.take (j+1):=by
  have:=hl _ (aG hlt);rw[qP,aG hlt,this];rfl
 refine⟨d,?_⟩;rw[e2,e1];exact(Uu _ r (r.take (j+1)) (aL _)).1 d (j+1) h (by rw[List.take_take,Nat.min_self]) (by rw[cG];omega)
theorem sI:∀(N:Nat) (r:Str) (d k:Nat),r.length<=N->dW r d=(k,0)->r[k-1]?=some 34
 |0,r,d,k,hr,h=>by
  have:r=[]:=bY (by omega)
  subst this
  rw[oW]at h;cases h
 |N+1,[],d,k,_,h=>by rw[oW]at h;cases h
 |N+1,c::r,d,k,hr,h=>by
  simp only[aA]at hr
  have hr:r.length<=N:=by omega
  rw[iF]at h
  simp only[fI]at h
  split at h
  ·rename_i e
   injection h with h1 _
   subst h1 e
   rfl
  split at h
  ·cases h
  split at h
  ·cases r with
   |nil=>cases h
   |cons x rr=>
    simp only at h
    split at h
    ·obtain⟨g1,g2⟩:=lN h
     have gk:=((iE _ rr (aL _)).1 d _ g1).2.1
     have:=sI N rr d _ (by simp at hr;omega) g1
     rw[show k-1=(k-2-1)+2 by omega]
     exact this
    ·cases h
  split at h
  ·rename_i e3
   split at h
   ·cases h
   split at h
   ·obtain⟨g1,g2⟩:=lN h
    have gk:=((iE _ _ (aL _)).1 d _ g1).2.1
    have:=sI N _ d _ (kC _ (kC 1 hr)) g1
    rw[fU,fU]at this
    rw[show k-1=1+((hM (r.drop 1) (d+1)).1+(k-((hM (r.drop 1) (d+1)).1+2)-1))+1 by omega]
    exact this
   ·rename_i e4
    injection h with _ h2
    exact absurd h2 e4
  ·obtain⟨g1,g2⟩:=lN h
   have gk:=((iE _ r (aL _)).1 d _ g1).2.1
   have:=sI N r d _ hr g1
   rw[show k-1=(k-1-1)+1 by omega]
   exact this
theorem DR:∀(N:Nat) (t:Str),t.length<=N->Scd t->(insP t=none->pW t=true)/\∀i e,insP t=some (i,e)->pW (t.take i)=true/\i+3<=e/\e<=t.length/\Scd (t.drop e)
 |_,[],_,_=>⟨λ_=>rfl,λi e h=>by simp[insP]at h⟩
 |0,_::_,h,_=>by simp at h
 |N+1,[c],_,⟨d,h⟩=>by
  refine⟨λ_=>?_,λi e h=>by simp[insP]at h⟩
  simp only[pW,bne_iff_ne,AX]
  intro e
  subst e
  simp only[dC,cI]at h
  rw[iF]at h
  simp[Lex.escOk,iT,oW]at h
 |N+1,c::x::r,hN,⟨d,h⟩=>by
  simp only[aA]at hN
  simp only[dC]at h
  rw[iF]at h
  simp only[fI]at h
  split at h
  ·injection h with h1 _
   simp at h1
  split at h
  ·cases h
  simp only[insP,pW]
  split at h
  ·rename_i e92
   rw[aF e92,aF e92]
   split at h
   ·obtain⟨g1,g2⟩:=lN h
    have sr:Scd r:=⟨d,by rw[g1];simp⟩
    obtain⟨i1,i2⟩:=DR N r (by omega) sr
    refine⟨λhn=>i1 (by cases hr:insP r with|none=>rfl|some y=>rw[hr]at hn;cases hn),λi e hi=>?_⟩
    cases hr:insP r with
    |none=>rw[hr]at hi;cases hi
    |some y=>
     rw[hr]at hi
     simp only[jN,bD,eY]at hi
     obtain⟨rfl,rfl⟩:=hi
     obtain⟨j1,j2,j3,j4⟩:=i2 _ _ hr
     refine⟨?_,by omega,by simp only[aA];omega,by rw[show y.2+2=y.2+1+1 by omega,bG,bG];exact j4⟩
     rw[show y.1+2=y.1+1+1 by omega,lO,lO]
     simp only[pW]
     rw[aF e92]
     exact j1
   ·cases h
  rename_i e92
  rw[aD e92,aD e92]
  split at h
  ·rename_i e3
   have hc:c=36/\x=123:=by
    simp[kW,List.isPrefixOf]at e3;exact⟨e3.1.symm,e3.2.symm⟩
   rw[aF hc];refine⟨λhn=>(by cases hn),λi e hi=>?_⟩;simp only[bD,eY]at hi;obtain⟨rfl,rfl⟩:=hi;split at h
   ·cases h
   split at h
   ·rename_i e4;simp only[bG,bJ]at h e4;obtain⟨k1,e5⟩:∃k1,hM (r++[34]) (d+1)=(k1,0):=⟨_,eO rfl e4⟩;simp only[e5]at h;obtain⟨g1,g2⟩:=lN h;have gk:=((iE _ _ (aL _)).1 d _ g1).2;have gi:=((iE _ (r++[34]) (aL _)).2 (d+1) _ e5).1;simp only[aA]at g1 gk g2;have hle:k1<=r.length:=by omega
    have hs:=(Uu _ (r++[34]) r (aL _)).2 (d+1) _ e5 (by rw[As hle]) hle;have hb:=((iE _ r (aL _)).2 (d+1) _ hs).2 1 (by omega);rw[aF rfl]at hb;have eb:Ap (x::r)=1+k1:=by
     show lR (x::r) 0=_;rw[gU,aF hc.2,show(0:Int)+1=1 from rfl,hb]
    rw[eb];refine⟨rfl,by omega,by simp only[aA];omega,?_⟩;rw[show 1+(1+k1)=k1+1+1 by omega,bG,bG];refine⟨d,?_⟩;rw[<-Av hle,g1,aJ];simp only[eY,oI];omega
   ·rename_i e4;injection h with _ h2
    exact absurd h2 e4
  ·rename_i e3;have hc:¬(c=36/\x=123):=λe=>e3 (by simp[kW,List.isPrefixOf,e.1,e.2]);rw[aD hc];obtain⟨g1,g2⟩:=lN h;have sr:Scd (x::r):=⟨d,by simp only[dC];rw[g1];simp⟩;obtain⟨i1,i2⟩:=DR N (x::r) (by simp only[aA];omega) sr;refine⟨λhn=>i1 (by cases hr:insP (x::r)with|none=>rfl|some y=>rw[hr]at hn;cases hn),λi e hi=>?_⟩;cases hr:insP (x::r)with
   |none=>rw[hr]at hi;cases hi
   |some y=>
    rw[hr]at hi;simp only[jN,bD,eY]at hi;obtain⟨rfl,rfl⟩:=hi;obtain⟨j1,j2,j3,j4⟩:=i2 _ _ hr;refine⟨?_,by omega,by simp only[aA]at j3⊢;omega,by rw[bG];exact j4⟩;rw[lO];exact JS e92 j1
def Ar(t:Str):Prop:=noD t=true\/Scd t
theorem DK{t:Str}(h:Ar t):(insP t=none->pW t=true)/\∀i e,insP t=some (i,e)->pW (t.take i)=true/\i+3<=e/\e<=t.length/\Ar (t.drop e):=by
 rcases h with h|h
 ·exact⟨λ_=>BF _ t (aL _) h,λi e hi=>by rw[AU _ t (aL _) h]at hi;cases hi⟩
 ·obtain⟨h1,h2⟩:=DR _ t (aL _) h;exact⟨h1,λi e hi=>by obtain⟨a,b,c,d⟩:=h2 i e hi;exact⟨a,b,c,.inr d⟩⟩
def TS(l:List Tok):Prop:=∀t∈l,t.k=3->Ar t.t/\t.t.length<=100000
theorem sV:∀s:Str,(gO s).length<=2*s.length
 |[]=>aL _
 |c::r=>by
  have:=sV r
  simp only[gO]
  split
  ·simp only[aA];omega
  split
  ·simp only[aA];omega
  split
  ·simp only[aA];omega
  ·simp only[aA];omega
theorem Dn:∀(n:Nat) (name s:Str),(kN n name s).1.length<=2*s.length
 |0,_,_=>by simp[kN]
 |n+1,name,s=>by
  have hr:=pU (λb=>b !=10) s
  simp only[kN]
  split
  ·simp
  split
  ·simp
  rename_i hlen
  split
  ·have h1:=Dn n name (s.drop (cS (λb=>b !=10) s+1))
   have h2:=sV (s.take (cS (λb=>b !=10) s))
   rw[aJ]at h1
   rw[cG]at h2
   simp only[aB,aA,aC]
   omega
  ·simp
theorem Gc(s:Str):(fN s).1.length<=2*s.length:=by
 unfold fN;simp only;generalize (if eD ((s.drop 2).headD 0)=true then cS dM (s.drop 2)else 0)=n;split
 ·simp
 split
 ·have h1:=Dn (s.length+1) ((s.drop 2).take n) (s.drop (2+n+1));rw[aJ]at h1;split
  ·show(kN (s.length+1) ((s.drop 2).take n) (s.drop (2+n+1))).1.length<=_;omega
  ·simp
 ·simp
theorem SL{s:Str}{t:Tok}{k:Nat}(h:iH s=(t,k,0))(hk:t.k=3):Ar t.t/\t.t.length<=2*s.length:=by
 unfold iH at h;simp only at h;split at h
 ·injection h with h1 _;subst h1;cases hk
 split at h
 ·injection h with h1 _;subst h1;cases hk
 split at h
 ·injection h with h1 _;subst h1;cases hk
 split at h
 ·split at h
  ·rename_i hq he;injection h with h1 _
   subst h1;have hx:mM (s.length+1) (s.drop 1) 0=dW (s.drop 1) 0:=pK (by rw[aJ];omega);rw[hx]at he⊢;refine⟨.inr (KJ (d:=0) (eO rfl he) λb hb=>?_),by simp only[cG,aJ];omega⟩;rw[sI _ (s.drop 1) 0 _ (aL _) (eO rfl he)]at hb;injection hb with hb
   exact hb.symm
  ·rename_i he;injection h with h1 h2
   injection h2 with _ h2
   exact absurd h2 he
 split at h
 ·injection h with h1 h2
  injection h2 with h2 h3
  obtain⟨i1,i2,i3⟩:=BW (s:=s) (t:=(fN s).1) (k:=(fN s).2.1) (eO rfl (eO rfl h3));subst h1;exact⟨.inl i3,Gc s⟩
 ·injection h with h1 _;subst h1;cases hk
theorem Fg:∀(n:Nat) (s:Str) (a cnt:Nat) (l:List Tok),s.length<=16384->iJ n s a cnt=.ok l->TS l
 |0,_,_,_,_,_,h=>by simp[iJ]at h
 |n+1,s,a,cnt,l,hl,h=>by
  simp only[iJ]at h
  split at h
  ·cases h
  split at h
  ·injection h with h
   subst h
   intro t ht hk
   simp only[aU]at ht
   subst ht
   cases hk
  split at h
  ·cases h
  rename_i ho
  split at h
  ·cases h
  split at h
  ·rename_i l' hl'
   injection h with h
   subst h
   intro t ht hk
   rcases bC.1 ht with rfl|ht
   ·have h1:=SL (t:=(iH (s.drop (cZ (s.length+1) s).1)).1) (k:=(iH (s.drop (cZ (s.length+1) s).1)).2.1) (eO rfl (eO rfl (Classical.not_not.1 ho))) hk
    rw[aJ]at h1
    exact⟨h1.1,by simp only;omega⟩
   ·exact Fg n _ _ _ _ (by rw[aJ,aJ];omega) hl' t ht hk
  ·rename_i hne
   exact absurd h (hne l)
theorem AQ{s:Str}{l:List Tok}(h:iI s=.ok l):TS l:=by
 unfold iI at h;split at h
 ·cases h
 rename_i hl;split at h
 ·cases h
 exact Fg _ _ _ _ _ (by omega) h
theorem CI:∀(n:Nat) (s:Str) (a cnt:Nat) (l:List Tok),cnt<=4096->iJ n s a cnt=.ok l->cnt+l.length<=4097
 |0,_,_,_,_,_,h=>by simp[iJ]at h
 |n+1,s,a,cnt,l,hc,h=>by
  simp only[iJ]at h
  split at h
  ·cases h
  split at h
  ·injection h with h
   subst h
   simp only[aA,aC];omega
  split at h
  ·cases h
  split at h
  ·cases h
  rename_i hne
  split at h
  ·rename_i l' hl'
   injection h with h
   subst h
   have:=CI n _ _ _ _ (by omega) hl'
   simp only[aA];omega
  ·rename_i hne
   exact absurd h (hne l)
theorem sM{s:Str}{l:List Tok}(h:iI s=.ok l):l.length<=4097/\s.length<=16384:=by
 unfold iI at h;split at h
 ·cases h
 rename_i hl;split at h
 ·cases h
 have:=CI _ _ _ _ _ (cX _) h;omega
end
end Go.Syn
namespace Go.Proofs.YtjblfcfdeaagpaaGreatDoor
section
open Go Go.Eng Go.Num
variable{w:World}{K:Q0}{cs:List Value}{G:Nat->Prop}{T:TypeId}{i:Nat}{n:Nat}{v:Value}{w':World}{P:Program}{c:UInt8}{S:Nat->Prop}
theorem OH(n:Nat){w1:World}{B:List Value->Fr->World->(List Value->World->Prop)->Prop}(R:Nat->World->Prop)(h0:R 0 w1)
  (step:∀i w g L,i<n->R i w->(∀w',R (i+1) w'->L [i64 ((i+1:Nat):Int)] w')->B [i64 (i:Nat)] g w L)
  (fin:∀w g L,R n w->B [i64 (n:Nat)] g w L):dD [i64 0] w1 B:=by
 refine⟨λs w=>∃i,i<=n/\s=[i64 (i:Nat)]/\R i w,λs _=>match s with|[.int _ i]=>n-i.toNat|_=>0,⟨0,cX _,rfl,h0⟩,?_⟩;rintro s g w ⟨i,hi,rfl,hR⟩;rcases mZ i n with hlt|hge
 ·exact step i w g _ hlt hR λw' h'=>⟨⟨i+1,hlt,rfl,h'⟩,by simp only[aP];omega⟩
 ·obtain rfl:i=n:=by omega
  exact fin w g _ hR
theorem up1(h:(i:Int)<9223372036854775807):IntKind.i64.wrap ((i:Int)+1)=((i+1:Nat):Int):=by rw[dF (by omega) (by omega)];simp
section
variable [HX]
end
section
variable [HX]
theorem JD(c:UInt8):(decide (((c.toNat:Nat):Int)<48)||decide ((57:Int)<((c.toNat:Nat):Int)))=!Num.isDig c:=by
 unfold Num.isDig;rcases mZ c.toNat 48 with h|h
 ·rw[cO (by omega),cV (show¬48<=c.toNat by omega)];rfl
 ·rw[cV (show¬((c.toNat:Nat):Int)<48 by omega),cO (show 48<=c.toNat by omega)];rcases mZ 57 c.toNat with h2|h2
  ·rw[cO (by omega),cV (show¬c.toNat<=57 by omega)];rfl
  ·rw[cV (by omega),cO (show c.toNat<=57 by omega)];rfl
theorem Us(c:UInt8)(m:Int)(d:UInt8)(hm:m=(d.toNat:Nat)):decide (((c.toNat:Nat):Int)=m)=(c==d):=by
 rw[AO,jE,fI,hm];constructor
 ·intro h;exact mV.1 (by omega)
 ·intro h;rw[h]
end
end
section
open Go Go.Eng Go.Num
abbrev ptr(b:Nat):Value:=.pointer (some ⟨b,0,none⟩)
end
end Go.Proofs.YtjblfcfdeaagpaaGreatDoor
namespace Go.Proofs
section
open Go.Shelf
variable{w:World}{K:Q0}{cs:List Value}{G:Nat->Prop}{T:TypeId}{i:Nat}{n:Nat}{v:Value}{w':World}{P:Program}{c:UInt8}{S:Nat->Prop}
def Tryz.lays169_ren:Go.Shelf.Ren:=⟨λ|169=>44|n=>n,λ|70=>112|9=>9|0=>0|72=>114|37=>80|127=>168|3=>3|5=>5|n=>n,λ|n=>n⟩
theorem Tryz.lays169:Go.Proofs.Lays.n169 P0 Tryz.lays169_ren:={
 mixed:=by kernel_rfl
 f169:=Tryz.func44.trans (congrArg some (by kernel_rfl))
 t0:=Tryz.underlying0
 a0:=Tryz.isAgg0
 z0:=Tryz.sizeOf0
 v0:=Tryz.zeroValue0
 t3:=Tryz.underlying3
 a3:=Tryz.isAgg3
 z3:=Tryz.sizeOf3
 v3:=Tryz.zeroValue3
 t9:=Tryz.underlying9
 a9:=Tryz.isAgg9
 z9:=Tryz.sizeOf9
 v9:=Tryz.zeroValue9
 t37:=Tryz.underlying80
 a37:=Tryz.isAgg80
 z37:=Tryz.sizeOf80
 v37:=Tryz.zeroValue80
 t70:=Tryz.underlying112
 a70:=Tryz.isAgg112
 z70:=Tryz.sizeOf112
 v70:=Tryz.zeroValue112
 t72:=Tryz.underlying114
 a72:=Tryz.isAgg114
 z72:=Tryz.sizeOf114
 v72:=Tryz.zeroValue114
 t127:=Tryz.underlying168
 a127:=Tryz.isAgg168
 z127:=Tryz.sizeOf168
 v127:=Tryz.zeroValue168}
theorem Tryz.Builder_Extra_169:Builder.Extra P0 Tryz.lays169_ren:={
 sizeBuilder:=by kernel_rfl
 liesBuilder:=by kernel_rfl
 t5:=Tryz.underlying5
 a5:=Tryz.isAgg5
 z5:=Tryz.sizeOf5
 v5:=Tryz.zeroValue5
 infoByte:=by kernel_rfl
 cellsByte:=by kernel_rfl
 sizeByte:=by kernel_rfl
 neB5:=by decide}
def Tryz.lays156_ren:Go.Shelf.Ren:=⟨λ|156=>84|165=>128|166=>88|169=>44|240=>131|241=>167|276=>170|277=>208|n=>n,λ|31=>33|9=>9|3=>3|4=>4|0=>0|20=>20|72=>114|76=>166|70=>112|37=>80|75=>165|127=>168|164=>230|5=>5|80=>116|n=>n,λ|n=>n⟩
theorem Tryz.lays156:Go.Proofs.Lays.n156 P0 Tryz.lays156_ren:={
 mixed:=by kernel_rfl
 f156:=Tryz.func84.trans (congrArg some (by kernel_rfl))
 f165:=Tryz.func128.trans (congrArg some (by kernel_rfl))
 f166:=Tryz.func88.trans (congrArg some (by kernel_rfl))
 f169:=Tryz.func44.trans (congrArg some (by kernel_rfl))
 f240:=Tryz.func131.trans (congrArg some (by kernel_rfl))
 f241:=Tryz.func167.trans (congrArg some (by kernel_rfl))
 f276:=Tryz.func170.trans (congrArg some (by kernel_rfl))
 f277:=Tryz.func208.trans (congrArg some (by kernel_rfl))
 t0:=Tryz.underlying0
 a0:=Tryz.isAgg0
 z0:=Tryz.sizeOf0
 v0:=Tryz.zeroValue0
 t3:=Tryz.underlying3
 a3:=Tryz.isAgg3
 z3:=Tryz.sizeOf3
 v3:=Tryz.zeroValue3
 t4:=Tryz.underlying4
 a4:=Tryz.isAgg4
 z4:=Tryz.sizeOf4
 v4:=Tryz.zeroValue4
 t9:=Tryz.underlying9
 a9:=Tryz.isAgg9
 z9:=Tryz.sizeOf9
 v9:=Tryz.zeroValue9
 t20:=Tryz.underlying20
 a20:=Tryz.isAgg20
 z20:=Tryz.sizeOf20
 v20:=Tryz.zeroValue20
 t31:=Tryz.underlying33
 a31:=Tryz.isAgg33
 z31:=Tryz.sizeOf33
 v31:=Tryz.zeroValue33
 t37:=Tryz.underlying80
 a37:=Tryz.isAgg80
 z37:=Tryz.sizeOf80
 v37:=Tryz.zeroValue80
 t70:=Tryz.underlying112
 a70:=Tryz.isAgg112
 z70:=Tryz.sizeOf112
 v70:=Tryz.zeroValue112
 t72:=Tryz.underlying114
 a72:=Tryz.isAgg114
 z72:=Tryz.sizeOf114
 v72:=Tryz.zeroValue114
 t75:=Tryz.underlying165
 a75:=Tryz.isAgg165
 z75:=Tryz.sizeOf165
 v75:=Tryz.zeroValue165
 t76:=Tryz.underlying166
 a76:=Tryz.isAgg166
 z76:=Tryz.sizeOf166
 v76:=Tryz.zeroValue166
 t127:=Tryz.underlying168
 a127:=Tryz.isAgg168
 z127:=Tryz.sizeOf168
 v127:=Tryz.zeroValue168
 t164:=Tryz.underlying230
 a164:=Tryz.isAgg230
 z164:=Tryz.sizeOf230
 v164:=Tryz.zeroValue230}
theorem Tryz.Builder_Extra_156:Builder.Extra P0 Tryz.lays156_ren:={
 sizeBuilder:=by kernel_rfl
 liesBuilder:=by kernel_rfl
 t5:=Tryz.underlying5
 a5:=Tryz.isAgg5
 z5:=Tryz.sizeOf5
 v5:=Tryz.zeroValue5
 infoByte:=by kernel_rfl
 cellsByte:=by kernel_rfl
 sizeByte:=by kernel_rfl
 neB5:=by decide}
open Go.RowKit in
theorem Tryz.strings_Join_none(a:Option Addr)(c:Nat)(sep:ByteArray)(w:World):
 Calls P0 84 #[.slice a 0 c,.string sep] w λe w'=>e=.returned (.string ⟨#[]⟩)/\w'=w:=Any.strings_Join_none Tryz.lays156 Tryz.Builder_Extra_156 a c sep w
open Go.RowKit in
theorem Tryz.strings_Join(bk o c:Nat)(xs:List ByteArray)(sep:ByteArray)(w:World)(hcells:∀(j:Nat) x,xs[j]?=some x->w.cell? ⟨bk,o+j,none⟩=some (.string x))(hbk:bk<w.heap.size)(hN:xs.length<=140737488355328)(hcap:xs.length<=c)(hlen:(Lib.join (xs.map (·.data.toList)) sep.data.toList).length<=140737488355328):
 Calls P0 84 #[.slice (some ⟨bk,o,none⟩) xs.length c,.string sep] w λe w'=>e=.returned (.string ⟨(Lib.join (xs.map (·.data.toList)) sep.data.toList).toArray⟩)/\Below w.heap.size w w':=Any.strings_Join Tryz.lays156 Tryz.Builder_Extra_156 bk o c xs sep w hcells hbk hN hcap hlen
def Tryz.lays161_ren:Go.Shelf.Ren:=⟨λ|161=>152|231=>199|227=>191|233=>200|235=>201|228=>192|197=>217|151=>218|260=>225|152=>189|137=>104|119=>215|224=>195|225=>194|217=>146|266=>193|n=>n,λ|9=>9|4=>4|3=>3|5=>5|117=>244|116=>243|0=>0|124=>248|105=>262|21=>21|119=>270|46=>75|139=>273|138=>272|n=>n,λ|3=>1|4=>2|n=>n⟩
theorem Tryz.lays161:Go.Proofs.Lays.n161 P0 Tryz.lays161_ren:={
 mixed:=by kernel_rfl
 f119:=Tryz.func215.trans (congrArg some (by kernel_rfl))
 f137:=Tryz.func104.trans (congrArg some (by kernel_rfl))
 f151:=Tryz.func218.trans (congrArg some (by kernel_rfl))
 f152:=Tryz.func189.trans (congrArg some (by kernel_rfl))
 f161:=Tryz.func152.trans (congrArg some (by kernel_rfl))
 f197:=Tryz.func217.trans (congrArg some (by kernel_rfl))
 f217:=Tryz.func146.trans (congrArg some (by kernel_rfl))
 f224:=Tryz.func195.trans (congrArg some (by kernel_rfl))
 f225:=Tryz.func194.trans (congrArg some (by kernel_rfl))
 f227:=Tryz.func191.trans (congrArg some (by kernel_rfl))
 f228:=Tryz.func192.trans (congrArg some (by kernel_rfl))
 f231:=Tryz.func199.trans (congrArg some (by kernel_rfl))
 f233:=Tryz.func200.trans (congrArg some (by kernel_rfl))
 f235:=Tryz.func201.trans (congrArg some (by kernel_rfl))
 f260:=Tryz.func225.trans (congrArg some (by kernel_rfl))
 f266:=Tryz.func193.trans (congrArg some (by kernel_rfl))
 t0:=Tryz.underlying0
 a0:=Tryz.isAgg0
 z0:=Tryz.sizeOf0
 v0:=Tryz.zeroValue0
 t3:=Tryz.underlying3
 a3:=Tryz.isAgg3
 z3:=Tryz.sizeOf3
 v3:=Tryz.zeroValue3
 t4:=Tryz.underlying4
 a4:=Tryz.isAgg4
 z4:=Tryz.sizeOf4
 v4:=Tryz.zeroValue4
 t5:=Tryz.underlying5
 a5:=Tryz.isAgg5
 z5:=Tryz.sizeOf5
 v5:=Tryz.zeroValue5
 t9:=Tryz.underlying9
 a9:=Tryz.isAgg9
 z9:=Tryz.sizeOf9
 v9:=Tryz.zeroValue9
 t21:=Tryz.underlying21
 a21:=Tryz.isAgg21
 z21:=Tryz.sizeOf21
 v21:=Tryz.zeroValue21
 t46:=Tryz.underlying75
 a46:=Tryz.isAgg75
 z46:=Tryz.sizeOf75
 v46:=Tryz.zeroValue75
 t105:=Tryz.underlying262
 a105:=Tryz.isAgg262
 z105:=Tryz.sizeOf262
 v105:=Tryz.zeroValue262
 t116:=Tryz.underlying243
 a116:=Tryz.isAgg243
 z116:=Tryz.sizeOf243
 t117:=Tryz.underlying244
 a117:=Tryz.isAgg244
 z117:=Tryz.sizeOf244
 v117:=Tryz.zeroValue244
 t119:=Tryz.underlying270
 a119:=Tryz.isAgg270
 z119:=Tryz.sizeOf270
 t124:=Tryz.underlying248
 a124:=Tryz.isAgg248
 z124:=Tryz.sizeOf248
 v124:=Tryz.zeroValue248
 t138:=Tryz.underlying272
 a138:=Tryz.isAgg272
 z138:=Tryz.sizeOf272
 v138:=Tryz.zeroValue272
 t139:=Tryz.underlying273
 a139:=Tryz.isAgg273
 z139:=Tryz.sizeOf273
 v139:=Tryz.zeroValue273
 g3:=by kernel_rfl
 g4:=by kernel_rfl}
def Tryz.lays137_ren:Go.Shelf.Ren:=⟨λ|137=>104|217=>146|266=>193|n=>n,λ|9=>9|5=>5|3=>3|n=>n,λ|n=>n⟩
theorem Tryz.lays137:Go.Proofs.Lays.n137 P0 Tryz.lays137_ren:={
 mixed:=by kernel_rfl
 f137:=Tryz.func104.trans (congrArg some (by kernel_rfl))
 f217:=Tryz.func146.trans (congrArg some (by kernel_rfl))
 f266:=Tryz.func193.trans (congrArg some (by kernel_rfl))
 t3:=Tryz.underlying3
 a3:=Tryz.isAgg3
 z3:=Tryz.sizeOf3
 v3:=Tryz.zeroValue3
 t5:=Tryz.underlying5
 a5:=Tryz.isAgg5
 z5:=Tryz.sizeOf5
 v5:=Tryz.zeroValue5
 t9:=Tryz.underlying9
 a9:=Tryz.isAgg9
 z9:=Tryz.sizeOf9
 v9:=Tryz.zeroValue9}
open Go.RowKit in
theorem Tryz.strings_IndexByte(s:ByteArray)(c:Int)(w:World):
 Calls P0 104 #[.string s,.int .u8 c] w λe w'=>e=.returned (.int .i64 (Lib.indexByte s.data.toList c.toNat.toUInt8))/\w'=w:=Any.strings_IndexByte Tryz.lays137 s c w
open Go.RowKit in
theorem Tryz.Builder_String_any_k(B b:Nat)(l:List UInt8)(w:World)(h:Lib.IsBuilderF 114 5 B b (Lib.byteCells l) w)(hBw:B<=w.heap.size):
 Calls P0 44 #[.pointer (some ⟨b,0,none⟩)] w λe w'=>e=.returned (.string ⟨l.toArray⟩)/\(Lib.IsBuilderF 114 5 B b (Lib.byteCells l) w'/\Below B w w'/\Lib.OthersKept 5 (some b) w w'):=Any.Builder_String_any_k Tryz.lays169 Tryz.Builder_Extra_169 B b l w h hBw
def Tryz.lays143_ren:Go.Shelf.Ren:=⟨λ|143=>107|219=>147|217=>146|225=>194|224=>195|267=>196|266=>193|314=>216|n=>n,λ|9=>9|3=>3|4=>4|5=>5|46=>75|146=>225|51=>224|n=>n,λ|1=>0|n=>n⟩
theorem Tryz.lays143:Go.Proofs.Lays.n143 P0 Tryz.lays143_ren:={
 mixed:=by kernel_rfl
 f143:=Tryz.func107.trans (congrArg some (by kernel_rfl))
 f217:=Tryz.func146.trans (congrArg some (by kernel_rfl))
 f219:=Tryz.func147.trans (congrArg some (by kernel_rfl))
 f224:=Tryz.func195.trans (congrArg some (by kernel_rfl))
 f225:=Tryz.func194.trans (congrArg some (by kernel_rfl))
 f266:=Tryz.func193.trans (congrArg some (by kernel_rfl))
 f267:=Tryz.func196.trans (congrArg some (by kernel_rfl))
 f314:=Tryz.func216.trans (congrArg some (by kernel_rfl))
 t3:=Tryz.underlying3
 a3:=Tryz.isAgg3
 z3:=Tryz.sizeOf3
 v3:=Tryz.zeroValue3
 t4:=Tryz.underlying4
 a4:=Tryz.isAgg4
 z4:=Tryz.sizeOf4
 v4:=Tryz.zeroValue4
 t5:=Tryz.underlying5
 a5:=Tryz.isAgg5
 z5:=Tryz.sizeOf5
 v5:=Tryz.zeroValue5
 t9:=Tryz.underlying9
 a9:=Tryz.isAgg9
 z9:=Tryz.sizeOf9
 v9:=Tryz.zeroValue9
 t46:=Tryz.underlying75
 a46:=Tryz.isAgg75
 z46:=Tryz.sizeOf75
 v46:=Tryz.zeroValue75
 t51:=Tryz.underlying224
 a51:=Tryz.isAgg224
 z51:=Tryz.sizeOf224
 v51:=Tryz.zeroValue224
 t146:=Tryz.underlying225
 a146:=Tryz.isAgg225
 z146:=Tryz.sizeOf225
 v146:=Tryz.zeroValue225
 g1:=by kernel_rfl}
open Go.RowKit Go.Lib in
theorem Tryz.strings_Index(s sub:ByteArray)(m:Int)(w:World)(hs:s.size<4294967281)(hm:w.cell? ⟨0,0,none⟩=some (.int .i64 m)):
 Calls P0 107 #[.string s,.string sub] w λe w'=>e=.returned (.int .i64 (Lib.index s.data.toList sub.data.toList))/\w'=w:=Any.strings_Index Tryz.lays143 s sub m w hs hm
def Tryz.lays145_ren:Go.Shelf.Ren:=⟨λ|145=>151|220=>198|219=>147|217=>146|225=>194|224=>195|267=>196|266=>193|314=>216|n=>n,λ|9=>9|4=>4|59=>214|3=>3|5=>5|46=>75|146=>225|51=>224|n=>n,λ|1=>0|n=>n⟩
theorem Tryz.lays145:Go.Proofs.Lays.n145 P0 Tryz.lays145_ren:={
 mixed:=by kernel_rfl
 f145:=Tryz.func151.trans (congrArg some (by kernel_rfl))
 f217:=Tryz.func146.trans (congrArg some (by kernel_rfl))
 f219:=Tryz.func147.trans (congrArg some (by kernel_rfl))
 f220:=Tryz.func198.trans (congrArg some (by kernel_rfl))
 f224:=Tryz.func195.trans (congrArg some (by kernel_rfl))
 f225:=Tryz.func194.trans (congrArg some (by kernel_rfl))
 f266:=Tryz.func193.trans (congrArg some (by kernel_rfl))
 f267:=Tryz.func196.trans (congrArg some (by kernel_rfl))
 f314:=Tryz.func216.trans (congrArg some (by kernel_rfl))
 t3:=Tryz.underlying3
 a3:=Tryz.isAgg3
 z3:=Tryz.sizeOf3
 v3:=Tryz.zeroValue3
 t4:=Tryz.underlying4
 a4:=Tryz.isAgg4
 z4:=Tryz.sizeOf4
 v4:=Tryz.zeroValue4
 t5:=Tryz.underlying5
 a5:=Tryz.isAgg5
 z5:=Tryz.sizeOf5
 v5:=Tryz.zeroValue5
 t9:=Tryz.underlying9
 a9:=Tryz.isAgg9
 z9:=Tryz.sizeOf9
 v9:=Tryz.zeroValue9
 t46:=Tryz.underlying75
 a46:=Tryz.isAgg75
 z46:=Tryz.sizeOf75
 v46:=Tryz.zeroValue75
 t51:=Tryz.underlying224
 a51:=Tryz.isAgg224
 z51:=Tryz.sizeOf224
 v51:=Tryz.zeroValue224
 t59:=Tryz.underlying214
 a59:=Tryz.isAgg214
 z59:=Tryz.sizeOf214
 v59:=Tryz.zeroValue214
 t146:=Tryz.underlying225
 a146:=Tryz.isAgg225
 z146:=Tryz.sizeOf225
 v146:=Tryz.zeroValue225
 g1:=by kernel_rfl}
open Go.RowKit Go.Lib in
theorem Tryz.strings_Cut(s sep:ByteArray)(m:Int)(w:World)(hs:s.size<4294967281)(hm:w.cell? ⟨0,0,none⟩=some (.int .i64 m)):
 Calls P0 151 #[.string s,.string sep] w λe w'=>e=.returned (.tuple #[.string ⟨(Lib.cut s.data.toList sep.data.toList).1.toArray⟩,.string ⟨(Lib.cut s.data.toList sep.data.toList).2.1.toArray⟩,.bool (Lib.cut s.data.toList sep.data.toList).2.2])/\∃n,w'=w.drewN n:=Any.strings_Cut Tryz.lays145 s sep m w hs hm
def Tryz.lays206_ren:Go.Shelf.Ren:=⟨λ|206=>103|n=>n,λ|9=>9|4=>4|3=>3|n=>n,λ|n=>n⟩
theorem Tryz.lays206:Go.Proofs.Lays.n206 P0 Tryz.lays206_ren:={
 mixed:=by kernel_rfl
 f206:=Tryz.func103.trans (congrArg some (by kernel_rfl))
 t3:=Tryz.underlying3
 a3:=Tryz.isAgg3
 z3:=Tryz.sizeOf3
 v3:=Tryz.zeroValue3
 t4:=Tryz.underlying4
 a4:=Tryz.isAgg4
 z4:=Tryz.sizeOf4
 v4:=Tryz.zeroValue4
 t9:=Tryz.underlying9
 a9:=Tryz.isAgg9
 z9:=Tryz.sizeOf9
 v9:=Tryz.zeroValue9}
open Go.RowKit Go.Lib in
theorem Tryz.stringslite_HasPrefix(s p:ByteArray)(w:World):
 Calls P0 103 #[.string s,.string p] w λe w'=>e=.returned (.bool (Lib.hasPrefix s.data.toList p.data.toList))/\w'=w:=Any.stringslite_HasPrefix Tryz.lays206 s p w
def Tryz.lays99_ren:Go.Shelf.Ren:=⟨λ|99=>59|206=>103|n=>n,λ|9=>9|4=>4|3=>3|n=>n,λ|n=>n⟩
theorem Tryz.lays99:Go.Proofs.Lays.n99 P0 Tryz.lays99_ren:={
 mixed:=by kernel_rfl
 f99:=Tryz.func59.trans (congrArg some (by kernel_rfl))
 f206:=Tryz.func103.trans (congrArg some (by kernel_rfl))
 t3:=Tryz.underlying3
 a3:=Tryz.isAgg3
 z3:=Tryz.sizeOf3
 v3:=Tryz.zeroValue3
 t4:=Tryz.underlying4
 a4:=Tryz.isAgg4
 z4:=Tryz.sizeOf4
 v4:=Tryz.zeroValue4
 t9:=Tryz.underlying9
 a9:=Tryz.isAgg9
 z9:=Tryz.sizeOf9
 v9:=Tryz.zeroValue9}
open Go.RowKit Go.Lib in
theorem Tryz.strings_HasPrefix(s p:ByteArray)(w:World):
 Calls P0 59 #[.string s,.string p] w λe w'=>e=.returned (.bool (Lib.hasPrefix s.data.toList p.data.toList))/\w'=w:=Any.strings_HasPrefix Tryz.lays99 s p w
def Tryz.lays105_ren:Go.Shelf.Ren:=⟨λ|105=>87|212=>129|99=>59|165=>128|166=>88|170=>130|169=>44|263=>168|264=>169|206=>103|240=>131|241=>167|276=>170|277=>208|n=>n,λ|9=>9|3=>3|4=>4|20=>20|0=>0|46=>75|109=>206|5=>5|72=>114|76=>166|51=>224|146=>225|53=>227|148=>228|70=>112|37=>80|75=>165|127=>168|164=>230|80=>116|n=>n,λ|n=>n⟩
theorem Tryz.lays105:Go.Proofs.Lays.n105 P0 Tryz.lays105_ren:={
 mixed:=by kernel_rfl
 f99:=Tryz.func59.trans (congrArg some (by kernel_rfl))
 f105:=Tryz.func87.trans (congrArg some (by kernel_rfl))
 f165:=Tryz.func128.trans (congrArg some (by kernel_rfl))
 f166:=Tryz.func88.trans (congrArg some (by kernel_rfl))
 f169:=Tryz.func44.trans (congrArg some (by kernel_rfl))
 f170:=Tryz.func130.trans (congrArg some (by kernel_rfl))
 f206:=Tryz.func103.trans (congrArg some (by kernel_rfl))
 f212:=Tryz.func129.trans (congrArg some (by kernel_rfl))
 f240:=Tryz.func131.trans (congrArg some (by kernel_rfl))
 f241:=Tryz.func167.trans (congrArg some (by kernel_rfl))
 f263:=Tryz.func168.trans (congrArg some (by kernel_rfl))
 f264:=Tryz.func169.trans (congrArg some (by kernel_rfl))
 f276:=Tryz.func170.trans (congrArg some (by kernel_rfl))
 f277:=Tryz.func208.trans (congrArg some (by kernel_rfl))
 t0:=Tryz.underlying0
 a0:=Tryz.isAgg0
 z0:=Tryz.sizeOf0
 v0:=Tryz.zeroValue0
 t3:=Tryz.underlying3
 a3:=Tryz.isAgg3
 z3:=Tryz.sizeOf3
 v3:=Tryz.zeroValue3
 t4:=Tryz.underlying4
 a4:=Tryz.isAgg4
 z4:=Tryz.sizeOf4
 v4:=Tryz.zeroValue4
 t5:=Tryz.underlying5
 a5:=Tryz.isAgg5
 z5:=Tryz.sizeOf5
 v5:=Tryz.zeroValue5
 t9:=Tryz.underlying9
 a9:=Tryz.isAgg9
 z9:=Tryz.sizeOf9
 v9:=Tryz.zeroValue9
 t20:=Tryz.underlying20
 a20:=Tryz.isAgg20
 z20:=Tryz.sizeOf20
 v20:=Tryz.zeroValue20
 t37:=Tryz.underlying80
 a37:=Tryz.isAgg80
 z37:=Tryz.sizeOf80
 v37:=Tryz.zeroValue80
 t46:=Tryz.underlying75
 a46:=Tryz.isAgg75
 z46:=Tryz.sizeOf75
 v46:=Tryz.zeroValue75
 t51:=Tryz.underlying224
 a51:=Tryz.isAgg224
 z51:=Tryz.sizeOf224
 v51:=Tryz.zeroValue224
 t53:=Tryz.underlying227
 a53:=Tryz.isAgg227
 z53:=Tryz.sizeOf227
 v53:=Tryz.zeroValue227
 t70:=Tryz.underlying112
 a70:=Tryz.isAgg112
 z70:=Tryz.sizeOf112
 v70:=Tryz.zeroValue112
 t72:=Tryz.underlying114
 a72:=Tryz.isAgg114
 z72:=Tryz.sizeOf114
 v72:=Tryz.zeroValue114
 t75:=Tryz.underlying165
 a75:=Tryz.isAgg165
 z75:=Tryz.sizeOf165
 v75:=Tryz.zeroValue165
 t76:=Tryz.underlying166
 a76:=Tryz.isAgg166
 z76:=Tryz.sizeOf166
 v76:=Tryz.zeroValue166
 t109:=Tryz.underlying206
 a109:=Tryz.isAgg206
 z109:=Tryz.sizeOf206
 v109:=Tryz.zeroValue206
 t127:=Tryz.underlying168
 a127:=Tryz.isAgg168
 z127:=Tryz.sizeOf168
 v127:=Tryz.zeroValue168
 t146:=Tryz.underlying225
 a146:=Tryz.isAgg225
 z146:=Tryz.sizeOf225
 v146:=Tryz.zeroValue225
 t148:=Tryz.underlying228
 a148:=Tryz.isAgg228
 z148:=Tryz.sizeOf228
 v148:=Tryz.zeroValue228
 t164:=Tryz.underlying230
 a164:=Tryz.isAgg230
 z164:=Tryz.sizeOf230
 v164:=Tryz.zeroValue230}
theorem Tryz.Builder_Extra_105:Builder.Extra P0 Tryz.lays105_ren:={
 sizeBuilder:=by kernel_rfl
 liesBuilder:=by kernel_rfl
 t5:=Tryz.underlying5
 a5:=Tryz.isAgg5
 z5:=Tryz.sizeOf5
 v5:=Tryz.zeroValue5
 infoByte:=by kernel_rfl
 cellsByte:=by kernel_rfl
 sizeByte:=by kernel_rfl
 neB5:=by decide}
open Go.RowKit Go.Lib in
theorem Tryz.strings_Repeat(s:ByteArray)(c:Nat)(w:World)(hc:c<=9223372036854775807)(hlen:s.size*c<=140737488355328):
 Calls P0 87 #[.string s,.int .i64 c] w λe w'=>e=.returned (.string ⟨(Lib.repeatL s.data.toList c).toArray⟩)/\Below w.heap.size w w':=Any.strings_Repeat Tryz.lays105 Tryz.Builder_Extra_105 s c w hc hlen
open Go.RowKit Go.Lib in
theorem Tryz.strings_TrimLeft_laid(s cutset:ByteArray)(w:World)(hcs:cutset.size<4294967281)(hascii:∀(j:Nat) b,cutset.data.toList[j]?=some b->b.toNat<128):
 Calls P0 152 #[.string s,.string cutset] w λe w'=>e=.returned (.string ⟨(Lib.trimLeftS s.data.toList cutset.data.toList).toArray⟩)/\Below w.heap.size w w':=Any.strings_TrimLeft_laid Tryz.lays161 (by kernel_rfl) s cutset w hcs hascii
end
end Go.Proofs
namespace Go.Proofs.YtjblfcfdeaagpaaGreatDoor
section
open Go Go.Eng Go.Num
variable{w:World}{K:Q0}{cs:List Value}{G:Nat->Prop}{T:TypeId}{i:Nat}{n:Nat}{v:Value}{w':World}{P:Program}{c:UInt8}{S:Nat->Prop}
abbrev u64(n:Nat):Value:=.int .u64 (n:Int)
abbrev U8:TypeId:=5
theorem JY(w:World)(e:TypeId)(s:ByteArray):Ext w (Lib.bytesWorld w e s):=
 ⟨rfl,rfl,rfl,by rw[Lib.bytesWorld_size];omega,λk hk _=>Lib.bytesWorld_at_old w e s k hk⟩
theorem Kv{l:Str}{src dst:TypeId}{K:Q0}(hs:Tryz.prog.underlying src=some .string)(hd:Tryz.prog.underlying dst=some (.slice U8))(he:Tryz.prog.underlying U8=some (.int .u8))
  (hK:∀v w',Byt w' U8 v l->Ext w w'->K v w'):fG P0 (convert src dst (str l)) w K:=by
 unfold fG;rw[Lib.run_convert_string_bytes w src dst U8 (ofL l) hs hd he];refine hK _ _ ?_ (JY _ _ _);have hle:(ofL l).size<=grownCap w (ofL l).size 0 U8:=by
  exact grownCap_ge w (ofL l).size 0 U8
 refine⟨some ⟨w.heap.size,0,none⟩,grownCap w (ofL l).size 0 U8,by rw[gN],by rw[<-gN];exact hle,(λe=>by cases e),λ_=>⟨w.heap.size,0,_,_,rfl,Lib.bytesWorld_at_new w U8 (ofL l),λi hi=>?_⟩⟩;have hi:i<(ofL l).size:=by rw[gN];simpa[xH]using hi
 have:=Lib.bytesWorld_cell w U8 (ofL l) i hi;rw[cP,Lib.bytesWorld_at_new,cM]at this;rw[aQ,this,HR,eP];have hi':i<l.length:=by rw[gN]at hi;exact hi
 simp[aH,aG hi']
theorem lG[HX]{g:FuncId}{args:Array Value}{K:Q0}(hr:∀(ar:Array Value) (w:World),(callFunc g ar).run P0 w=.ok (.enter g ar) w)
  (h:Calls P0 g args w λe w'=>∃v,e=.returned v/\K v w'):aI P0 g args.toList w K:=by
 unfold aI;rw[show args.toList.toArray=args from by simp,hr];refine h.mono ?_;rintro e w' ⟨v,rfl,hk⟩;exact hk
section
variable [HX]
theorem Ni{s p:Str}{K:Q0}(hs:s.length<=9223372036854775807)(hK:K (.bool (p.isPrefixOf s)) w):aI P0 103 [str s,str p] w K:=by
 refine lG (args:=#[str s,str p]) Tryz.call103 ((Tryz.stringslite_HasPrefix (ofL s) (ofL p) w).mono ?_);rintro e w' ⟨rfl,rfl⟩;refine⟨_,rfl,?_⟩;rw[eP,eP];exact hK
theorem EU{a:Str}{K:Q0}(hs:a.length<=9223372036854775807)(hK:K (str (dig a)) w):aI P0 148 [str a,str [45]] w K:=by
 refine Qg ?_;unfold Vz;refine PW ?_;unfold Vp;refine Ni hs ?_;cases a with
 |nil=>
  rw[show([45]:Str).isPrefixOf []=false from rfl];simp only[wsv,wsg,wsh,wsl,cY,jF,mT,QC,Nat.reduceAdd,Nat.reduceLT,oM,aY,uL,sG,AX,reduceCtorEq];exact hK
 |cons c r=>
  by_cases hc:c=45
  ·subst hc;have e:([45]:Str).isPrefixOf (45::r)=true:=by simp[List.isPrefixOf]
   have ed:dig (45::r)=r:=by simp[dig]
   rw[ed]at hK;rw[e];have e1:((0+1:Nat):Int).toNat=1:=rfl;simp only[wsv,wsg,wsh,wsl,cY,jF,mT,QC,Nat.reduceAdd,Nat.reduceLT,oM,aY,uL,sG,AX,reduceCtorEq,e1];refine⟨by omega,by omega,?_⟩;rw[<-aA (a:=(45:UInt8)),bP];exact hK
  ·have e:([45]:Str).isPrefixOf (c::r)=false:=by simp[List.isPrefixOf,uH hc]
   have ed:dig (c::r)=c::r:=by simp[dig,hc]
   rw[ed]at hK;rw[e];simp only[wsv,wsg,wsh,wsl,cY,jF,mT,QC,Nat.reduceAdd,Nat.reduceLT,oM,aY,uL,sG,AX,reduceCtorEq];exact hK
theorem FQ{a:Str}{K:Q0}(ha:a.length<=9223372036854775807)(hK:∀w',Ext w w'->K (.bool (goodN a)) w'):aI P0 111 [str a] w K:=by
 refine Qr ?_;unfold VJ;refine EU ha ?_;have hg:goodN a=(!decide ((dig a).length<1)&&!decide (100<(dig a).length)&&!((dig a).head?==some 48&&!decide (a=[48]))&&(dig a).all Num.isDig):=by
  unfold goodN;have e1:decide (1<=(dig a).length)=!decide ((dig a).length<1):=by rw[<-decide_not];exact decide_eq_decide.2 (by omega)
  have e2:decide ((dig a).length<=100)=!decide (100<(dig a).length):=by rw[<-decide_not];exact decide_eq_decide.2 (by omega)
  rw[e1,e2];cases((dig a).head?==some 48)<;>cases decide (a=[48])<;>simp
 rw[hg]at hK;have hdl:(dig a).length<=a.length:=by
  cases a with
  |nil=>simp[dig]
  |cons c r=>simp only[dig];split<;>simp
 cases hd:dig a with
 |nil=>
  rw[hd]at hK;have hz:decide (((0:Nat):Int)<1)=true:=by decide
  simp only[wsv,wsg,wsh,wsl,cY,jF,mT,QC,Nat.reduceAdd,Nat.reduceLT,oM,aY,uL,sG,AX,reduceCtorEq,hz];intros;exact hK _ (Chg.refl _ _)
 |cons c r=>
  rw[hd]at hK hdl;have hz:decide (((r.length+1:Nat):Int)<1)=false:=cV (by omega);simp only[wsv,wsg,wsh,wsl,cY,jF,mT,QC,Nat.reduceAdd,Nat.reduceLT,oM,aY,uL,sG,AX,reduceCtorEq,kT,Int.toNat_zero,Us c 48 48 rfl,hz];intros;rw[cU];have e1:decide ((100:Int)<((r.length+1:Nat):Int))=decide (100<(c::r).length):=decide_eq_decide.2 (by simp only[aA];omega);have e4:decide ((c::r).length<1)=false:=cV (by simp);have e5:((c::r).head?==some 48)=(c==48):=by simp
  rw[e1];rw[e4,e5]at hK;simp only[decide_not];generalize decide (100<(c::r).length)=b1 at*
  generalize ((c==48)&&!decide (a=[48]))=b2 at*
  refine⟨λh=>?_,λh=>?_⟩
  ·have:=hK _ (Chg.refl _ _);have e:(!false&&!b1&&!b2&&(c::r).all Num.isDig)=false:=by
    cases b1<;>cases b2<;>simp at h⊢
   rw[e]at this;exact this
  ·have hb:b1=false/\b2=false:=by simpa using h
   rw[hb.1,hb.2]at hK;refine Kv (l:=c::r) (by kernel_rfl) (by kernel_rfl) (by kernel_rfl) λv w1 hv hx1=>?_;rw[fD hv];generalize c::r=D at*
   refine OH D.length (λi w2=>Ext w1 w2/\(D.take i).all Num.isDig=true) ⟨Chg.refl _ _,rfl⟩ ?_ ?_
   ·rintro i w2 g L hi ⟨hx2,hall⟩ hL;obtain⟨e,he⟩:∃e,D[i]?=some e:=⟨_,aG hi⟩;have hlt:((i:Int)<((D.length:Nat):Int)):=by omega
    simp only[wsv,wsg,wsh,wsl,cY,jF,mT,QC,Nat.reduceAdd,Nat.reduceLT,oM,aY,uL,sG,AX,reduceCtorEq,hlt];refine kM (hv.ext hx2) (by rw[xH]) (by rw[HR,he];rfl) ?_;simp only[wsv,wsg,wsh,wsl,cY,jF,mT,QC,Nat.reduceAdd,Nat.reduceLT,oM,aY,uL,sG,AX,reduceCtorEq,JD];intros;rw[cU];refine⟨λhf=>?_,λht=>?_⟩
    ·have hf:Num.isDig e=false:=by simpa using hf
     have:=hK _ (hx1.trans hx2);rw[Ts he hf]at this;exact this
    ·have ht:Num.isDig e=true:=by simpa using ht
     rw[up1 (by omega)];exact hL _ ⟨hx2,by rw[GD he,hall,ht];rfl⟩
   ·rintro w2 g L ⟨hx2,hall⟩;simp only[wsv,wsg,wsh,wsl,cY,jF,mT,QC,Nat.reduceAdd,Nat.reduceLT,oM,aY,uL,sG,AX,reduceCtorEq,Int.lt_irrefl];rw[bP]at hall;have:=hK w2 (hx1.trans hx2);rw[hall]at this;exact this
end
end
end Go.Proofs.YtjblfcfdeaagpaaGreatDoor
namespace Go.Proofs
section
open Go.RowKit Go.Lib Go.Shelf
variable{w:World}{K:Q0}{cs:List Value}{G:Nat->Prop}{T:TypeId}{i:Nat}{n:Nat}{v:Value}{w':World}{P:Program}{c:UInt8}{S:Nat->Prop}
abbrev BdT:TypeId:=114
set_option maxHeartbeats 1000000 in
set_option maxRecDepth 100000 in
theorem Tryz.check_used(b:Nat)(w:World)(h0:w.cell? ⟨b,0,none⟩=some (.pointer (some ⟨b,0,none⟩))):
  Calls P0 131 #[.pointer (some ⟨b,0,none⟩)] w λe w'=>e=.returned (.tuple #[])/\w'=w:=by
 obtain⟨j,hj,_⟩:=jG.1 (show(Tryz.prog.info? 114).map (·.size)=some 2 by kernel_rfl)
 go_enter Tryz.func131,Tryz.ntmps131
 go_wp2
 rw[Lib.run_neq_ptr_same w _ Tryz.underlying112 hj]
 go_wp2
 go_end0
 exact⟨rfl,rfl⟩
set_option maxHeartbeats 1000000 in
set_option maxRecDepth 100000 in
theorem Tryz.check_fresh(b:Nat)(w:World)(h0:w.cell? ⟨b,0,none⟩=some (.pointer none))(hsh:w.shape? b=some (114,2))(hfz:w.frozen? ⟨b,0,none⟩=false):
  Calls P0 131 #[.pointer (some ⟨b,0,none⟩)] w λe w'=>e=.returned (.tuple #[])/\w'=w.setCell ⟨b,0,none⟩ (.pointer (some ⟨b,0,none⟩)):=by
 obtain⟨j,hj,hjs⟩:=jG.1 (show(Tryz.prog.info? 114).map (·.size)=some 2 by kernel_rfl)
 go_enter Tryz.func131,Tryz.ntmps131
 go_wp2
 rw[Lib.run_to_unsafe w ⟨b,0,none⟩ Tryz.underlying112 Tryz.underlying230 hj (by rw[hjs];decide) hsh (aY 1)];simp only[Result.andThen];rw[Oper.upon_value]
 go_wp2
 rw[run_callFunc_extern Tryz.func170 (by kernel_rfl) (by kernel_rfl) (by kernel_rfl) (e:=Extern.AbiNoEscape.same) (by kernel_rfl)];rw[Lib.run_noEscape];simp only[Result.andThen];rw[Oper.upon_value]
 go_wp2
 rw[Lib.run_from_unsafe w ⟨b,0,none⟩ Tryz.underlying230 Tryz.underlying112 hj hsh (show liesAt P0 Tryz.prog.depth 114 (2/Tryz.prog.cellsOf 114) 0 114 1=true by kernel_rfl)];simp only[Result.andThen];rw[Oper.upon_value]
 go_wp2
 go_end0
 exact⟨rfl,rfl⟩
end
end Go.Proofs
namespace Go.Proofs.YtjblfcfdeaagpaaGreatDoor
section
open Go Go.Eng Go.RowKit
variable{w:World}{K:Q0}{cs:List Value}{G:Nat->Prop}{T:TypeId}{i:Nat}{n:Nat}{v:Value}{w':World}{P:Program}{c:UInt8}{S:Nat->Prop}
abbrev BdT:TypeId:=114
theorem Bc:uI P0 80 U8 1 1:=⟨by kernel_rfl,by kernel_rfl,by decide⟩
def Bld(w:World)(B b:Nat)(l:Str):Prop:=
 ∃p v,w.heap[b]?=some (.cells [p,v].toArray BdT (0,0))/\(p=.pointer none\/p=.pointer (some ⟨b,0,none⟩))/\Own w B U8 1 v l.length (u8s l)/\B<=b
def BCh(w:World)(B b:Nat)(k:Nat):Prop:=k=b\/Kf w B U8 k
theorem Bld.chg{B b:Nat}{l:Str}(h:Bld w B b l)(hc:Chg S w w')(hb:¬S b)(hS:∀k,Kf w B U8 k->¬S k):Bld w' B b l:=by
 obtain⟨p,v,h1,h2,h3,h4⟩:=h;exact⟨p,v,hc.at h1 hb,h2,h3.chg hc hS,h4⟩
theorem Bld.ext{B b:Nat}{l:Str}(h:Bld w B b l)(hc:Ext w w'):Bld w' B b l:=h.chg hc (λe=>e) λ_ _ e=>e
theorem Bld.lt{B b:Nat}{l:Str}(h:Bld w B b l):b<w.heap.size:=by
 obtain⟨p,v,h1,_⟩:=h;exact vP h1
theorem Bld.base{B b:Nat}{l:Str}(h:Bld w B b l):B<=b:=by obtain⟨p,v,_,_,_,h4⟩:=h;exact h4
theorem IT{B b:Nat}{p:Value}(h1:w.heap[b]?=some (.cells [p,v].toArray BdT (0,0))):¬Kf w B U8 b:=by
 rintro⟨_,c,hc⟩;rw[h1]at hc;simp only[bD,Obj.cells.injEq]at hc;exact absurd hc.2.1 (by decide)
theorem BCh.trans{w1 w2:World}{B b:Nat}(h1:Chg (BCh w B b) w w1)(h2:Chg (BCh w1 B b) w1 w2):Chg (BCh w B b) w w2:=by
 refine⟨h2.os.trans h1.os,h2.tape.trans h1.tape,h2.output.trans h1.output,bZ h1.size h2.size,λk hk hn=>?_⟩;have e1:=h1.heap k hk hn;rw[<-e1];refine h2.heap k (bX hk h1.size) λe=>hn ?_;rcases e with e|⟨e2,c,e3⟩
 ·exact .inl e
 ·exact .inr ⟨e2,c,by rw[<-e1];exact e3⟩
theorem BCh.ext{w1 w2:World}{B b:Nat}(h1:Chg (BCh w B b) w w1)(h2:Ext w1 w2):Chg (BCh w B b) w w2:=h1.then h2 λ_ _ e=>e.elim
theorem BCh.from{w1 w2:World}{B b:Nat}(h1:Ext w w1)(h2:Chg (BCh w1 B b) w1 w2):Chg (BCh w B b) w w2:=BCh.trans (Chg.of_ext h1) h2
theorem BCh.new{w0:World}{B b:Nat}(h0:Ext w0 w)(hB:w0.heap.size<=B)(hb:B<=b)(h:Chg (BCh w B b) w w'):Ext w0 w':=
 h0.then h λk hk e=>by
  rcases e with rfl|⟨e,_⟩
  ·omega
  ·omega
theorem BCh.keep{B b k:Nat}{c:Array Value}{fr:Nat×Nat}(h:Chg (BCh w B b) w w')(hk:w.heap[k]?=some (.cells c T fr))(hb:k≠b)(hT:T≠U8):w'.heap[k]?=some (.cells c T fr):=
 h.at hk λe=>by
  rcases e with e|⟨_,c',e⟩
  ·exact hb e
  ·rw[hk]at e
   simp only[bD,Obj.cells.injEq]at e
   exact hT e.2.1
theorem BCh.iter{B b k p:Nat}{s:ByteArray}(h:Chg (BCh w B b) w w')(hk:w.heap[k]?=some (.stringIter s p))(hb:k≠b):w'.heap[k]?=some (.stringIter s p):=
 h.at hk λe=>by
  rcases e with e|⟨_,c',e⟩
  ·exact hb e
  ·rw[hk]at e;cases e
section
variable [HX]
theorem Mq{B:Nat}{K:Q0}(hB:B<=w.heap.size)(hK:∀b w',b=w.heap.size->Bld w' B b []->Ext w w'->K (.pointer (some ⟨b,0,none⟩)) w'):cN BdT [.pointer none,.slice none 0 0] w K:=
 bN λa w' ha hz hb hx=>hK a w' ha ⟨_,_,hb,.inl rfl,⟨by simp[u8s],.inl ⟨rfl,rfl⟩⟩,by omega⟩ hx
theorem EE{B b:Nat}{l:Str}{K:Q0}(h:Bld w B b l)
  (hK:∀v w',w'.heap[b]?=some (.cells [.pointer (some ⟨b,0,none⟩),v].toArray BdT (0,0))->Own w' B U8 1 v l.length (u8s l)->w'.heap.size=w.heap.size->Chg (BCh w B b) w w'->K (.tuple #[]) w'):
  aI P0 131 [.pointer (some ⟨b,0,none⟩)] w K:=by
 obtain⟨p,v,h1,h2,h3,h4⟩:=h;have c0:w.cell? ⟨b,0,none⟩=some p:=by rw[cP,h1];rfl
 rcases h2 with rfl|rfl
 ·refine lG (args:=#[.pointer (some ⟨b,0,none⟩)]) Tryz.call131 ((Tryz.check_fresh b w c0 (by simp[World.shape?,h1]) (by rw[wP,h1];rfl)).mono ?_);rintro e w' ⟨rfl,rfl⟩;refine⟨_,rfl,hK v _ ?_ ?_ (EY _ _ _) (Chg.set (Chg.refl _ _) (.inl (.inl rfl)) _)⟩
  ·rw[sF,h1];rfl
  ·refine h3.chg (Chg.set (S:=λk=>k=b) (Chg.refl _ _) (.inl rfl) _) λk hk e=>?_;subst e;exact IT h1 hk
 ·refine lG (args:=#[.pointer (some ⟨b,0,none⟩)]) Tryz.call131 ((Tryz.check_used b w c0).mono ?_);rintro e w' ⟨rfl,rfl⟩;exact⟨_,rfl,hK v _ h1 h3 rfl (Chg.refl _ _)⟩
theorem HI{w3:World}{B b n:Nat}{l l':Str}{v':Value}{K:World->Prop}(h1:w.heap[b]?=some (.cells [.pointer (some ⟨b,0,none⟩),v].toArray BdT (0,0)))(hO:Own w B U8 1 v l.length (u8s l))(hb:B<=b)
  (hc:Chg (λk=>v.ownBlock=some k) w w3)(hO':Own w3 B U8 1 v' l'.length (u8s l'))(hK:∀w',Bld w' B b l'->Chg (BCh w B b) w w'->w'.heap.size=w3.heap.size->K w'):
  stW 1 (.pointer (some ⟨b,1,none⟩)) v' w3 K:=by
 have hne:¬v.ownBlock=some b:=λe=>IT h1 (hO.block b e);have h3:=hc.at h1 hne;have hsh:nK v'=true:=by obtain⟨p,c,rfl,_⟩:=hO'.sl.shape;rfl
 refine qA h3 hsh (by simp) λw4 hz hb4 hc4=>?_;refine hK w4 ⟨.pointer (some ⟨b,0,none⟩),v',by rw[hb4];simp,.inr rfl,hO'.chg hc4 λk hk e=>by subst e;exact IT h3 hk,hb⟩ ?_ hz;have s1:Chg (BCh w B b) w w3:=hc.mono λk _ e=>.inr (hO.block k e);exact s1.then hc4 λk _ e=>.inl e
theorem uM{B b:Nat}{l s:Str}{K:Q0}(h:Bld w B b l)(hB:B<=w.heap.size)(hl:l.length+s.length<=140737488355328)
  (hK:∀v w',Bld w' B b (l++s)->Chg (BCh w B b) w w'->K v w'):aI P0 88 [.pointer (some ⟨b,0,none⟩),str s] w K:=by
 have hb:=h.base;refine Tt ?_;unfold W88;refine EE h λv w1 h1 hO hz hc=>?_;rw[dZ,bH,eC];refine⟨v,by rw[bO,cP,h1];rfl,?_⟩;obtain⟨i,z,hi,hzr,h2,h3,h4⟩:=Bc.get;have hz0:i.zero=some (.int .u8 0):=by
  have:(Tryz.prog.info? U8).map (·.zero)=some (some (.int .u8 0)):=by kernel_rfl
  rw[hi]at this;simpa using this
 obtain⟨v',w3,hr,hO',hg,_⟩:=Lib.run_append_own_string (P:=P0) w1 B 80 9 80 U8 i Bc.und (by kernel_rfl) hi hz0 h2 h3 v l.length (u8s l) hO (ofL s) (by rw[gN];unfold maxLen;omega) (by rw[gN];omega) (by omega);unfold fG;rw[hr];dsimp only;rw[dZ,bH];have hO2:Own w3 B U8 1 v' (l++s).length (u8s (l++s)):=by
  rw[DJ,aB];have e1:Lib.strCells (ofL s)=u8s s:=by unfold Lib.strCells u8s;rw[eP]
  rw[gN,e1]at hO';exact hO'
 refine HI (n:=0) h1 hO hb (Chg.of_grown hg λk e=>e) hO2 λw4 hb4 hc4 _=>?_;rw[eQ];exact hK _ w4 hb4 (BCh.trans hc hc4)
theorem KM{K:Q0}(hK:∀t w',gE w' U8 t 1 [.int .u8 (n:Int)]->Ext w w'->K t w'):fH U8 1 [(.int .u8 0)] [(0,1,.int .u8 (n:Int))] w K:=by
 rw[fH];simp only[dJ,dQ,aA,aC,aR];refine⟨by omega,?_⟩;refine hK _ _ ⟨_,_,rfl,aL _,λe=>(by cases e),λ_=>⟨_,_,_,_,rfl,kO _ _ _ rfl,λi _=>by rw[aQ];simp⟩⟩ (Chg.alloc (Chg.refl _ _) _)
theorem pJ{B b:Nat}{l:Str}{K:Q0}(h:Bld w B b l)(hB:B<=w.heap.size)(hl:l.length+1<=140737488355328)(hn:n<256)
  (hK:∀w',Bld w' B b (l++[UInt8.ofNat n])->Chg (BCh w B b) w w'->K .nilIface w'):aI P0 126 [.pointer (some ⟨b,0,none⟩),.int .u8 (n:Int)] w K:=by
 have hb:=h.base;refine Qj ?_;unfold VB;refine EE h λv w1 h1 hO hz hc=>?_;rw[dZ,bH,eC];refine⟨v,by rw[bO,cP,h1];rfl,?_⟩;refine KM λt w2 ht hx2=>?_;refine sB Bc (hO.ext hx2) ht (m:=1) rfl (λu hu=>by simp only[aU]at hu;subst hu;rfl) (by omega) (by omega) (by have:=hx2.size;omega) λv' w3 hO3 hc3 _=>?_;rw[dZ,bH];have hO2:Own w3 B U8 1 v' (l++[UInt8.ofNat n]).length (u8s (l++[UInt8.ofNat n])):=by
  rw[DJ,aB];have e1:u8s [UInt8.ofNat n]=[.int .u8 (n:Int)]:=by
   simp only[u8s,bS,pR,UInt8.toNat_ofNat'];rw[Nat.mod_eq_of_lt (by omega)]
  rw[e1];exact hO3
 refine HI (n:=0) (hx2.at h1 id) (hO.ext hx2) hb hc3 hO2 λw4 hb4 hc4 _=>?_;exact hK w4 hb4 (BCh.trans hc (BCh.from hx2 hc4))
end
abbrev u8(n:Nat):Value:=.int .u8 (n:Int)
theorem UD:∀x:Fin 32,IntKind.u8.wrap (BitVec.ofInt IntKind.u8.bits 192|||BitVec.ofInt IntKind.u8.bits ((x.val:Nat):Int)).toNat=((192+x.val:Nat):Int):=by decide+kernel
theorem UC:∀x:Fin 16,IntKind.u8.wrap (BitVec.ofInt IntKind.u8.bits 224|||BitVec.ofInt IntKind.u8.bits ((x.val:Nat):Int)).toNat=((224+x.val:Nat):Int):=by decide+kernel
theorem UB:∀x:Fin 8,IntKind.u8.wrap (BitVec.ofInt IntKind.u8.bits 240|||BitVec.ofInt IntKind.u8.bits ((x.val:Nat):Int)).toNat=((240+x.val:Nat):Int):=by decide+kernel
theorem UE:∀x:Fin 64,IntKind.u8.wrap (BitVec.ofInt IntKind.u8.bits 128|||BitVec.ofInt IntKind.u8.bits ((x.val:Nat):Int)).toNat=((128+x.val:Nat):Int):=by decide+kernel
theorem US:∀x:Fin 256,IntKind.u8.wrap (BitVec.ofInt IntKind.u8.bits ((x.val:Nat):Int)&&&BitVec.ofInt IntKind.u8.bits 63).toNat=((x.val%64:Nat):Int):=by decide+kernel
theorem yA(n:Nat):IntKind.u8.wrap (n:Int)=((n%256:Nat):Int):=by
 simp only[IntKind.wrap,IntKind.bits,IntKind.signed,Bool.false_and];rw[show(2:Int)^8=256 by decide];simp
theorem ET(h:n<4294967296):IntKind.u32.wrap (n:Int)=(n:Int):=by
 simp only[IntKind.wrap,IntKind.bits,IntKind.signed,Bool.false_and];rw[show(2:Int)^32=4294967296 by decide];simp only[uJ,Cv];omega
theorem CF(r k:Nat)(hk:k<=32)(K:Value->Prop):aO .shr (.int .i32 (r:Int)) (.int .u64 (k:Int)) K↔K (.int .i32 ((r/2^k:Nat):Int)):=by
 have e:(r:Int).fdiv (2^min (k:Int).toNat IntKind.i32.bits)=((r/2^k:Nat):Int):=by
  rw[aP,show min k IntKind.i32.bits=k from Nat.min_eq_left hk,Int.fdiv_eq_ediv_of_nonneg _ (by exact Int.le_of_lt (Int.pow_pos (by decide)))];rw[Int.natCast_ediv,Int.natCast_pow];rfl
 simp only[aO];rw[e];constructor
 ·exactλh=>h.2
 ·exactλh=>⟨by omega,h⟩
theorem zS(x:Nat)(K:Value->Prop):(wW .u8 (.int .i32 (x:Int)) λt=>aO .and t (.int .u8 63) λt=>aO .or (.int .u8 128) t K)↔K (u8 (128+x%64)):=by
 rw[rY,yA,Pq,US ⟨x%256,by omega⟩,EH,UE ⟨x%256%64,by omega⟩];simp only;rw[show x%256%64=x%64 by omega]
theorem VX{a b:Nat}{K:Q0}(hK:∀t w',gE w' U8 t 2 [u8 a,u8 b]->Ext w w'->K t w'):fH U8 2 [(.int .u8 0),(.int .u8 0)] [(0,1,u8 a),(1,1,u8 b)] w K:=by
 rw[fH];simp only[dJ,dQ,aA,aC,aR,aV];refine⟨by omega,by omega,?_⟩;refine hK _ _ ⟨_,_,rfl,aL _,λe=>(by cases e),λ_=>⟨_,_,_,_,rfl,kO _ _ _ rfl,λi _=>by rw[aQ];simp⟩⟩ (Chg.alloc (Chg.refl _ _) _)
theorem VW{a b c:Nat}{K:Q0}(hK:∀t w',gE w' U8 t 3 [u8 a,u8 b,u8 c]->Ext w w'->K t w'):fH U8 3 [(.int .u8 0),(.int .u8 0),(.int .u8 0)] [(0,1,u8 a),(1,1,u8 b),(2,1,u8 c)] w K:=by
 rw[fH];simp only[dJ,dQ,aA,aC,aR,aV];refine⟨by omega,by omega,by omega,?_⟩;refine hK _ _ ⟨_,_,rfl,aL _,λe=>(by cases e),λ_=>⟨_,_,_,_,rfl,kO _ _ _ rfl,λi _=>by rw[aQ];simp⟩⟩ (Chg.alloc (Chg.refl _ _) _)
theorem VV{a b c d:Nat}{K:Q0}(hK:∀t w',gE w' U8 t 4 [u8 a,u8 b,u8 c,u8 d]->Ext w w'->K t w'):fH U8 4 [(.int .u8 0),(.int .u8 0),(.int .u8 0),(.int .u8 0)] [(0,1,u8 a),(1,1,u8 b),(2,1,u8 c),(3,1,u8 d)] w K:=by
 rw[fH];simp only[dJ,dQ,aA,aC,aR,aV];refine⟨by omega,by omega,by omega,by omega,?_⟩;refine hK _ _ ⟨_,_,rfl,aL _,λe=>(by cases e),λ_=>⟨_,_,_,_,rfl,kO _ _ _ rfl,λi _=>by rw[aQ];simp⟩⟩ (Chg.alloc (Chg.refl _ _) _)
theorem MP(l:List Nat)(h:∀x∈l,x<256):u8s (l.map b8)=l.map u8:=by
 unfold u8s;rw[gQ];apply dN;intro x hx;have:=h x hx;simp only[Function.comp,b8,UInt8.toNat_ofNat',u8];rw[Nat.mod_eq_of_lt (by omega)]
section
variable [HX]
theorem Pt{B r:Nat}{l:Str}{K:Q0}(hO:Own w B U8 1 v l.length (u8s l))(hB:B<=w.heap.size)(hl:l.length+4<=140737488355328)(hr:r<55296\/57343<r/\r<=1114111)
  (hK:∀v' w',Own w' B U8 1 v' (l++wrM r).length (u8s (l++wrM r))->(∀k,¬Kf w B U8 k->k<w.heap.size->w'.heap[k]?=w.heap[k]?)->Chg (λk=>v.ownBlock=some k) w w'->K v' w'):
  aI P0 166 [v,.int .i32 (r:Int)] w K:=by
 have fin:∀(bs:List Nat) (t:Value) (w1:World),wrM r=bs.map b8->(∀x∈bs,x<256)->bs.length<=4->gE w1 U8 t bs.length (bs.map u8)->Ext w w1->fG P0 (Builtin.append_ #[80,80] 80 #[v,t]) w1 K:=by
  intro bs t w1 he hlt hlen ht hx;refine sB Bc (hO.ext hx) ht (m:=bs.length) (by simp) (λu hu=>by simp only[eU]at hu;obtain⟨x,_,rfl⟩:=hu;rfl) (by omega) (by omega) (by have:=hx.size;omega) λv' w3 hO3 hc3 _=>?_;have hc:Chg (λk=>v.ownBlock=some k) w w3:=(Chg.of_ext hx).trans hc3;refine hK v' w3 ?_ (λk hk hlt=>hc.heap k hlt λe=>hk (hO.block k e)) hc;rw[DJ,he,MP bs hlt,aB,cD];exact hO3
 refine PY ?_;unfold Vq;rw[rY,ET (by omega),uC,aN];refine⟨λh=>?_,λh=>?_⟩
 ·rw[rY,yA,Nat.mod_eq_of_lt (by omega)];refine KM λt w1 ht hx=>?_;refine fin [r] t w1 ?_ (λx hx=>by simp only[aU]at hx;omega) (by simp) ht hx;unfold wrM;rw[aF (by omega)];rfl
 refine PQ ?_;unfold Vl;rw[rY,ET (by omega),uC,aN];refine⟨λh2=>?_,λh2=>?_⟩
 ·rw[show(6:Int)=((6:Nat):Int)from rfl,CF r 6 (by omega),rY,yA,show r/2^6%256=r/64 by omega,EH,UD ⟨r/64,by omega⟩,zS];refine VX λt w1 ht hx=>?_;refine fin [192+r/64,128+r%64] t w1 ?_ (λx hx=>by simp only[bC,dH,mD]at hx;omega) (by simp) ht hx;unfold wrM;rw[aD (by omega),aF (by omega)];rfl
 refine cK.cut (λs' w'=>s'=[.bool (decide (r<=65535))]/\w'=w) ?_ ?_
 ·rw[eL,aN];refine⟨λh3=>?_,λh3=>?_⟩
  ·rw[cO h3,cO (by omega)];exact⟨rfl,rfl⟩
  ·rw[eL,cO (show(57343:Int)<(r:Int)by omega)];refine GdW.look (decide (r<=65535)) (λ_ J hJ=>?_) λg=>?_
   ·rw[uC];rw[show decide ((r:Int)<=65535)=decide (r<=65535)by rw[decide_eq_decide];omega];exact hJ
   ·exact⟨rfl,rfl⟩
 rintro s' g w' ⟨rfl,rfl⟩;simp only[aE];rw[aN];refine⟨λh3=>?_,λh3=>?_⟩
 ·rw[show(12:Int)=((12:Nat):Int)from rfl,CF r 12 (by omega),rY,yA,show r/2^12%256=r/4096 by omega,EH,UC ⟨r/4096,by omega⟩,show(6:Int)=((6:Nat):Int)from rfl,CF r 6 (by omega),zS,zS];refine VW λt w1 ht hx=>?_;refine fin [224+r/4096,128+r/64%64,128+r%64] t w1 ?_ (λx hx=>by simp only[bC,dH,mD]at hx;omega) (by simp) ht hx;unfold wrM;rw[aD (by omega),aD (by omega),aF (by omega)];rfl
 rw[mU,cO (show(65535:Int)<(r:Int)by omega)];refine GdW.look true (λ_ J hJ=>?_) λg=>?_
 ·rw[uC,cO (show(r:Int)<=1114111 by omega)];exact hJ
 show aS (.bool true) _ _;rw[fP];rw[show(18:Int)=((18:Nat):Int)from rfl,CF r 18 (by omega),rY,yA,show r/2^18%256=r/262144 by omega,EH,UB ⟨r/262144,by omega⟩,show(12:Int)=((12:Nat):Int)from rfl,CF r 12 (by omega),zS,show(6:Int)=((6:Nat):Int)from rfl,CF r 6 (by omega),zS,zS];refine VV λt w1 ht hx=>?_;refine fin [240+r/262144,128+r/4096%64,128+r/64%64,128+r%64] t w1 ?_ (λx hx=>by simp only[bC,dH,mD]at hx;omega) (by simp) ht hx;unfold wrM;rw[aD (by omega),aD (by omega),aD (by omega)];rfl
theorem HO{B b r:Nat}{l:Str}{K:Q0}(h:Bld w B b l)(hB:B<=w.heap.size)(hl:l.length+4<=140737488355328)(hr:r<55296\/57343<r/\r<=1114111)
  (hK:∀v w',Bld w' B b (l++wrM r)->Chg (BCh w B b) w w'->K v w'):aI P0 127 [.pointer (some ⟨b,0,none⟩),.int .i32 (r:Int)] w K:=by
 have hb:=h.base;refine Qi ?_;unfold VA;refine EE h λv w1 h1 hO hz hc=>?_;have hc1:w1.cell? (⟨b,0,none⟩:Addr)|>.isSome:=by rw[cP,h1];rfl
 rw[dZ,bH,eC];refine⟨v,by rw[bO,cP,h1];rfl,?_⟩;rw[fD hO.sl,dZ,bH,eC];refine⟨v,by rw[bO,cP,h1];rfl,?_⟩;refine Pt hO (by omega) hl hr λv' w2 hO2 _ hc2=>?_;rw[dZ,bH];refine HI (n:=0) h1 hO hb hc2 hO2 λw4 hb4 hc4 _=>?_;obtain⟨p,v4,h4,_,hO4,_⟩:=id hb4;rw[dZ,bH,eC];refine⟨v4,by rw[bO,cP,h4];rfl,?_⟩;rw[fD hO4.sl,nZ];exact hK _ w4 hb4 (BCh.trans hc hc4)
end
end
section
open Go Go.Eng Go.RowKit Go.Syn Go.Lex
variable{w:World}{K:Q0}{cs:List Value}{G:Nat->Prop}{T:TypeId}{i:Nat}{n:Nat}{v:Value}{w':World}{P:Program}{c:UInt8}{S:Nat->Prop}
theorem Ph{B b:Nat}{l:Str}(h:Bld w B b l):Lib.IsBuilderF BdT U8 B b (Lib.byteCells l) w:=by
 obtain⟨p,v,h1,h2,h3,h4⟩:=h;have hO:w.ownsRow B U8 1 v (u8s l).length (u8s l):=by rw[xH];exact h3
 have:Lib.BuilderAt BdT U8 B b p (u8s l) w:=⟨h4,v,h1,hO,λe=>IT h1 (h3.block b e)⟩;rcases h2 with rfl|rfl
 ·exact .inl (Lib.BuilderAtF.of this)
 ·exact .inr (Lib.BuilderAtF.of this)
theorem jV[HX]{g:FuncId}{args caps:List Value}{K:Q0}(h:aI P g (args++caps) w K):AE P (.func (.func g) #[] caps.toArray) args w K:=by
 unfold AE RB;unfold aI at h;have:(do let d<-(Deferred.ofValue (.func (.func g) #[] caps.toArray) args.toArray);invoke d.target d.args:Sem Next)=callFunc g (args++caps).toArray:=by
  show callFunc g (#[]++args.toArray++caps.toArray)=_;simp
 rw[this];exact h
theorem gP{s:Str}(h:i<s.length):s.drop i=s[i]::s.drop (i+1):=fS h
theorem pre_eq(s:Str):Lib.hasPrefix s [36,123]=kW [36,123] s:=rfl
section
variable [HX]
theorem sY{B b:Nat}{l:Str}{K:Q0}(h:Bld w B b l)(hB:B<=w.heap.size)(hK:∀w',Chg (λk=>B<=k) w w'->K (str l) w'):aI P0 44 [.pointer (some ⟨b,0,none⟩)] w K:=by
 refine lG (args:=#[.pointer (some ⟨b,0,none⟩)]) Tryz.call44 ((Tryz.Builder_String_any_k B b l w (Ph h) hB).mono ?_);rintro e w' ⟨rfl,_,hb,_⟩;exact⟨_,rfl,hK w' ⟨hb.os,hb.tape,hb.output,hb.size,λk _ hn=>hb.block k (by omega)⟩⟩
theorem xN{s q:Str}{K:Q0}(hK:K (.bool (Lib.hasPrefix s q)) w):aI P0 59 [str s,str q] w K:=by
 refine lG (args:=#[str s,str q]) Tryz.call59 ((Tryz.strings_HasPrefix (ofL s) (ofL q) w).mono ?_);rintro e w' ⟨rfl,rfl⟩;rw[eP,eP];exact⟨_,rfl,hK⟩
theorem qE{s:Str}{K:Value->Prop}(h:i<s.length)(hK:K (.int .u8 (s[i].toNat:Nat))):pH (str s) (i64 (i:Nat)) K:=by
 rw[Ix];exact⟨by omega,s[i],by simpa using aG h,hK⟩
theorem CB(c:UInt8)(k:Nat)(hk:k<256):decide (((c.toNat:Nat):Int)=(k:Int))=decide (c=UInt8.ofNat k):=by
 rw[decide_eq_decide];constructor
 ·intro h;have h:c.toNat=k:=by omega
  rw[<-h];simp
 ·intro h;subst h;rw[UInt8.toNat_ofNat'];omega
theorem GR{s:Str}{K:Q0}(he:pW s=true)(hl:s.length<=1000000)(hK:∀w',Ext w w'->K (str (dT s)) w'):aI P0 116 [str s] w K:=by
 refine Qm ?_;unfold VE;refine Mq (B:=w.heap.size) (aL _) λb w1 hb hB1 hx1=>?_;have hz1:=hx1.size;refine dD.go (λst w'=>∃i out,st=[i64 (i:Nat)]/\i<=s.length/\Bld w' w.heap.size b out/\Ext w w'/\out++dT (s.drop i)=dT s/\out.length<=i/\pW (s.drop i)=true) (λst _=>match st with|[.int _ i]=>s.length-i.toNat|_=>0)
  ⟨0,[],rfl,by omega,hB1,hx1,rfl,aL _,he⟩ ?_
 rintro st g w2 ⟨i,out,rfl,hi,hB2,hx2,hs,ho,hes⟩;have hz2:=hx2.size;simp only[aE];rw[eQ,eL,aN];have fin:∀{w3:World} {l:Str} {j:Nat} (c:UInt8),Chg (BCh w2 w.heap.size b) w2 w3->Bld w3 w.heap.size b (out++[c])->i<=j->j<s.length->(out++[c])++dT (s.drop (j+1))=dT s->pW (s.drop (j+1))=true->
   (∃i' out',[i64 ((j+1:Nat))]=[i64 (i':Nat)]/\i'<=s.length/\Bld w3 w.heap.size b out'/\Ext w w3/\out'++dT (s.drop i')=dT s/\out'.length<=i'/\pW (s.drop i')=true)/\s.length-((j+1:Nat):Int).toNat<s.length-((i:Nat):Int).toNat:=λ{w3 l j} c hc hB3 hij hj he1 he2=>by
  refine⟨⟨j+1,out++[c],rfl,by omega,hB3,BCh.new hx2 (aL _) (by omega) hc,he1,by simp;omega,he2⟩,?_⟩;simp only[aP];omega
 refine⟨λhlt=>?_,λhge=>?_⟩
 ·have hlt:i<s.length:=by omega
  refine qE hlt ?_;have hd:=gP hlt;have he0:=hes;rw[hd]at hes hs;refine cK.cut (λst w'=>w'=w2/\∃(j:Nat) (c:UInt8),st=[i64 (j:Nat),.int .u8 (c.toNat:Nat)]/\i<=j/\j<s.length/\(out++[c])++dT (s.drop (j+1))=dT s/\pW (s.drop (j+1))=true) ?_ ?_
  ·rw[bI,aN];refine⟨λe=>?_,λe=>?_⟩
   ·have ec:s[i]=92:=mV.1 (by have e:(s[i].toNat:Int)=92:=e;show s[i].toNat=92;omega);have hlt2:i+1<s.length:=by
     by_cases h2:i+1<s.length
     ·exact h2
     ·rw[dO (by omega),ec]at hes;simp[pW]at hes
    have hd2:=gP hlt2;rw[hd2,ec]at hes hs;simp only[pW,gY]at hes;simp only[dT,gY]at hs;rw[bU,upi (by omega)];refine qE hlt2 ?_;rw[bI,aN];refine⟨λe1=>?_,λe1=>?_⟩
    ·have e1:s[i+1]=110:=mV.1 (by have e:(s[i+1].toNat:Int)=110:=e1;show s[i+1].toNat=110;omega);rw[aF e1]at hs;exact⟨rfl,i+1,10,rfl,by omega,hlt2,by rw[<-hs];simp,hes⟩
    have e1':s[i+1]≠110:=λh=>e1 (by rw[h];rfl);rw[bI,aN];rw[aD e1']at hs;refine⟨λe2=>?_,λe2=>?_⟩
    ·have e2:s[i+1]=116:=mV.1 (by have e:(s[i+1].toNat:Int)=116:=e2;show s[i+1].toNat=116;omega);rw[aF e2]at hs;exact⟨rfl,i+1,9,rfl,by omega,hlt2,by rw[<-hs];simp,hes⟩
    have e2':s[i+1]≠116:=λh=>e2 (by rw[h];rfl);rw[bI,aN];rw[aD e2']at hs;refine⟨λe3=>?_,λe3=>?_⟩
    ·have e3:s[i+1]=114:=mV.1 (by have e:(s[i+1].toNat:Int)=114:=e3;show s[i+1].toNat=114;omega);rw[aF e3]at hs;exact⟨rfl,i+1,13,rfl,by omega,hlt2,by rw[<-hs];simp,hes⟩
    have e3':s[i+1]≠114:=λh=>e3 (by rw[h];rfl);rw[aD e3']at hs;exact⟨rfl,i+1,s[i+1],rfl,by omega,hlt2,by rw[<-hs];simp,hes⟩
   ·have ec:s[i]≠92:=λh=>e (by rw[h];rfl);refine⟨rfl,i,s[i],rfl,aL _,hlt,?_,?_⟩
    ·rw[<-hs];cases hr:s.drop (i+1)with
     |nil=>simp only[dT];rw[aD ec];simp
     |cons x r=>simp only[dT];rw[aD ec];simp
    ·cases hr:s.drop (i+1)with
     |nil=>rfl
     |cons x r=>rw[hr]at hes;simp only[pW]at hes;rw[aD ec]at hes;exact hes
  rintro st g2 w3 ⟨rfl,j,c,rfl,hij,hj,he1,he2⟩;simp only[aE,dX];refine pJ (n:=c.toNat) hB2 hz2 (by omega) (oJ c) λw4 hB4 hc4=>?_;rw[bU,upi (by omega)];rw[mY]at hB4;exact fin (l:=[]) c hc4 hB4 hij hj he1 he2
 ·obtain rfl:i=s.length:=by omega
  rw[jY]at hs;simp only[dT,cH]at hs;subst hs;refine sY hB2 hz2 λw3 hc3=>?_;exact hK w3 (hx2.then hc3 λk hk e=>by omega)
end
theorem eX(s:Str)(i j:Nat):(s.drop i).drop j=s.drop (i+j):=dY
section
variable [HX]
def Ug(n:Nat):Prop:=∀(s:Str) (w:World) (K:Q0),s.length<=n->s.length<=1000000->K (i64 (lR s 0:Nat)) w->aI P0 153 [str s] w K
def QA(n:Nat):Prop:=∀(c:UInt8) (r:Str) (w:World) (K:Q0),r.length<n->r.length<=1000000->K (i64 ((1+nJ r:Nat):Int)) w->aI P0 202 [str (c::r)] w K
theorem Gu(hq:QA n):Ug n:=by
 intro s w K hn hl hK;refine Qd ?_;unfold Vw;refine dD.go (λst w'=>∃(d:Int) (i:Nat),st=[i64 d,i64 (i:Nat)]/\i<=s.length/\w'=w/\i+lR (s.drop i) d=lR s 0/\-(i:Int)<=d/\d<=i) (λst _=>match st with|[_,.int _ i]=>s.length-i.toNat|_=>0) ⟨0,0,rfl,by omega,rfl,by simp,by omega,by omega⟩ ?_;rintro st g w2 ⟨d,i,rfl,hi,rfl,hb,hd1,hd2⟩;simp only[aE,dX];rw[eQ,eL,aN];refine⟨λhlt=>?_,λhge=>?_⟩
 ·have hlt:i<s.length:=by omega
  have hd:=gP hlt;rw[hd,gU]at hb;have cond:∀(k:Nat),k<256->(((s[i].toNat:Nat):Int)=(k:Int)↔s[i]=UInt8.ofNat k):=λk hk=>by
   have:=CB s[i] k hk;rwa[decide_eq_decide]at this
  refine cK.cut (λst w'=>w'=w2/\∃(d':Int) (j:Nat),st=[i64 d',i64 (j:Nat)]/\i<=j/\j<s.length/\j+1+lR (s.drop (j+1)) d'=lR s 0/\-((j+1:Nat):Int)<=d'/\d'<=((j+1:Nat):Int)) ?_ ?_
  ·refine qE hlt ?_;rw[bI,aN];refine⟨λe=>?_,λe=>?_⟩
   ·have e:s[i]=123:=(cond 123 (by omega)).1 e;rw[aF e]at hb;rw[bU,dF (by omega) (by omega)];exact⟨rfl,d+1,i,rfl,aL _,hlt,by omega,by omega,by omega⟩
   have e:¬s[i]=123:=λh=>e ((cond 123 (by omega)).2 h);rw[aD e]at hb;rw[bI,aN];refine⟨λe=>?_,λe=>?_⟩
   ·have e:s[i]=125:=(cond 125 (by omega)).1 e;rw[aF e]at hb;rw[nZ,dF (by omega) (by omega),bI,aN];refine⟨λh0=>?_,λh0=>?_⟩
    ·rw[aF h0]at hb;rw[bU,upi (by omega),hb];exact hK
    ·rw[aD h0]at hb;exact⟨rfl,d-1,i,rfl,aL _,hlt,by omega,by omega,by omega⟩
   have e:¬s[i]=125:=λh=>e ((cond 125 (by omega)).2 h);rw[aD e]at hb;rw[bI,aN];refine⟨λe=>?_,λe=>?_⟩
   ·have e:s[i]=34:=(cond 34 (by omega)).1 e;rw[aF e]at hb;rw[fC,fR,eM];refine⟨by omega,by omega,?_⟩;rw[bP,aP,hd];refine hq _ _ _ _ (by rw[aJ];omega) (by rw[aJ];omega) ?_;have hle:=(QV _ (s.drop (i+1)) (aL _)).2;rw[aJ]at hle;rw[nZ,dF (by omega) (by omega),bU,dF (by omega) (by omega)];rw[eX]at hb;refine⟨rfl,d,i+nJ (s.drop (i+1)),?_,by omega,?_,?_,by omega,by omega⟩
    ·simp only[fF,Value.int.injEq,dB,oI];omega
    ·omega
    ·rw[show i+nJ (s.drop (i+1))+1=i+1+nJ (s.drop (i+1))by omega];omega
   have e:¬s[i]=34:=λh=>e ((cond 34 (by omega)).2 h);rw[aD e]at hb;exact⟨rfl,d,i,rfl,aL _,hlt,by omega,by omega,by omega⟩
  rintro st g2 w3 ⟨rfl,d',j,rfl,hij,hj,hb',h1,h2⟩;simp only[aE,dX];rw[bU,upi (by omega)];refine⟨⟨d',j+1,rfl,by omega,trivial,by omega,by omega,by omega⟩,?_⟩;simp only[aP];omega
 ·obtain rfl:i=s.length:=by omega
  rw[jY,Mn]at hb;rw[<-hb]at hK;exact hK
theorem KP(hbr:Ug n):QA (n+1):=by
 intro c r w K hn hl hK;refine PV ?_;unfold Vo;have hlen:(c::r).length=r.length+1:=rfl;refine dD.go (λst w'=>∃(i:Nat),st=[i64 ((i+1:Nat):Int)]/\w'=w/\((i<=r.length/\i+nJ (r.drop i)=nJ r)\/(i=r.length+1/\nJ r=r.length))) (λst _=>match st with|[.int _ i]=>r.length+2-i.toNat|_=>0) ⟨0,rfl,rfl,.inl ⟨by omega,by simp⟩⟩ ?_;rintro st g w2 ⟨i,rfl,rfl,hbi⟩;simp only[aE,dX];rw[eQ,eL,aN,hlen];refine⟨λhlt=>?_,λhge=>?_⟩
 ·have hlt:i<r.length:=by omega
  obtain⟨hi,hb⟩:=hbi.resolve_right (by omega);have hd:=gP hlt;rw[hd,oZ]at hb;have cond:∀(k:Nat),k<256->(((r[i].toNat:Nat):Int)=(k:Int)↔r[i]=UInt8.ofNat k):=λk hk=>by
   have:=CB r[i] k hk;rwa[decide_eq_decide]at this
  have ix:∀{KK:Value->Prop},KK (.int .u8 (r[i].toNat:Nat))->pH (str (c::r)) (i64 ((i+1:Nat):Int)) KK:=λh=>qE (s:=c::r) (i:=i+1) (by rw[hlen];omega) h;refine cK.cut (λst w'=>w'=w2/\∃(j:Nat),st=[i64 ((j+1:Nat):Int)]/\i<=j/\((j+1<=r.length/\j+1+nJ (r.drop (j+1))=nJ r)\/(j+1=r.length+1/\nJ r=r.length))) ?_ ?_
  ·refine ix ?_;rw[bI,aN];refine⟨λe=>?_,λe=>?_⟩
   ·have e:r[i]=34:=(cond 34 (by omega)).1 e;rw[aF e]at hb;rw[bU,upi (by omega)];rw[<-hb,show 1+(i+1)=i+1+1 by omega]at hK;exact hK
   have e:¬r[i]=34:=λh=>e ((cond 34 (by omega)).2 h);rw[aD e]at hb;refine ix ?_;rw[bI,aN];refine⟨λe=>?_,λe=>?_⟩
   ·have e:r[i]=92:=(cond 92 (by omega)).1 e;rw[aF e]at hb;rw[bU,upi (by omega)];refine⟨rfl,i+1,rfl,by omega,?_⟩;cases hr:r.drop (i+1)with
    |nil=>
     rw[hr]at hb;have hle:r.length<=i+1:=by
      have:=congrArg List.length hr;rw[aJ,aC]at this;omega
     simp only at hb;exact .inr ⟨by omega,by omega⟩
    |cons x rr=>
     rw[hr]at hb;simp only at hb;have e2:r.drop (i+1+1)=rr:=by rw[<-eX,hr];rfl
     have e3:=congrArg List.length hr;rw[aJ,aA]at e3;exact .inl ⟨by omega,by rw[e2];omega⟩
   have e:¬r[i]=92:=λh=>e ((cond 92 (by omega)).2 h);rw[aD e]at hb;rw[fC,fR,eM];refine⟨by omega,by rw[hlen];omega,?_⟩;rw[bP,aP,bG,hd];refine xN ?_;rw[pre_eq,cU];refine⟨λe=>?_,λe=>?_⟩
   ·rw[aF e]at hb;rw[bU,upi (by omega),fC,fR,eM];refine⟨by omega,by rw[hlen];omega,?_⟩;rw[bP,aP,bG];refine hbr _ _ _ (by rw[aJ];omega) (by rw[aJ];omega) ?_;have hle:=EG (r.drop (i+1)) 0;rw[aJ]at hle;rw[bU,dF (by omega) (by omega)];rw[eX]at hb;refine⟨rfl,i+lR (r.drop (i+1)) 0,?_,by omega,.inl ⟨by omega,?_⟩⟩
    ·simp only[fF,Value.int.injEq,dB,oI];omega
    ·rw[show i+lR (r.drop (i+1)) 0+1=i+1+lR (r.drop (i+1)) 0 by omega];omega
   ·rw[aD (by rw[e];decide)]at hb;exact⟨rfl,i,rfl,aL _,.inl ⟨by omega,by omega⟩⟩
  rintro st g2 w3 ⟨rfl,j,rfl,hij,hb'⟩;simp only[aE,dX];rw[bU,upi (by omega)];refine⟨⟨j+1,rfl,trivial,hb'⟩,?_⟩;simp only[aP];omega
 ·have hq:nJ r=r.length:=by
   rcases hbi with⟨hi,hb⟩|h
   ·rw[dO (by omega),KQ]at hb;omega
   ·exact h.2
  rw[hq,show 1+r.length=r.length+1 by omega]at hK;exact hK
theorem IN:∀n,Ug n/\QA n
 |0=>have hq:QA 0:=λ_ _ _ _ h=>by omega
  ⟨Gu hq,hq⟩
 |n+1=>have hq:=KP (IN n).1
  ⟨Gu hq,hq⟩
theorem Mm{s:Str}{K:Q0}(hl:s.length<=1000000)(hK:K (i64 (Ap s:Nat)) w):aI P0 153 [str s] w K:=(IN s.length).1 s w K (aL _) hl hK
def Ev(s:Str):List Value:=match Syn.insP s with|some (i,e)=>[i64 (i:Nat),i64 (e:Nat)]|none=>[i64 (-1),i64 0]
theorem JF(c:UInt8)(r:Str):Syn.insP (c::r)=if c=92 then(Syn.insP (r.drop 1)).map (λx=>(x.1+2,x.2+2))else if kW [36,123] (c::r)=true then some (0,1+Ap r)else(Syn.insP r).map λx=>(x.1+1,x.2+1):=by
 cases r with
 |nil=>
  simp only[Syn.insP,List.drop_nil,Option.map_none];split
  ·rfl
  ·simp[kW,List.isPrefixOf]
 |cons e r=>
  simp only[Syn.insP,bG,bJ];split
  ·rfl
  ·have:(c=36/\e=123)↔kW [36,123] (c::e::r)=true:=by
    simp[kW,List.isPrefixOf];exact⟨λh=>⟨h.1.symm,h.2.symm⟩,λh=>⟨h.1.symm,h.2.symm⟩⟩
   by_cases h:c=36/\e=123
   ·rw[aF h,aF (this.1 h)]
   ·rw[aD h,aD (λx=>h (this.2 x))]
theorem vD{s:Str}{K:Q0}(hl:s.length<=1000000)(hK:K (.tuple (Ev s).toArray) w):aI P0 115 [str s] w K:=by
 refine Qn ?_;unfold VF;refine dD.go (λst w'=>∃(i:Nat),st=[i64 (i:Nat)]/\w'=w/\Syn.insP s=(Syn.insP (s.drop i)).map λx=>(x.1+i,x.2+i)) (λst _=>match st with|[.int _ i]=>s.length+1-i.toNat|_=>0) ⟨0,rfl,rfl,by rw[bJ];cases Syn.insP s<;>rfl⟩ ?_;rintro st g w2 ⟨i,rfl,rfl,hb⟩;simp only[aE];rw[eQ,eL,aN];unfold Ev at hK;refine⟨λhlt=>?_,λhge=>?_⟩
 ·have hlt:i<s.length:=by omega
  have hd:=gP hlt;rw[hd,JF]at hb;have cond:∀(k:Nat),k<256->(((s[i].toNat:Nat):Int)=(k:Int)↔s[i]=UInt8.ofNat k):=λk hk=>by
   have:=CB s[i] k hk;rwa[decide_eq_decide]at this
  refine cK.cut (λst w'=>w'=w2/\∃(j:Nat),st=[i64 (j:Nat)]/\i<=j/\j<=i+1/\Syn.insP s=(Syn.insP (s.drop (j+1))).map λx=>(x.1+(j+1),x.2+(j+1))) ?_ ?_
  ·refine qE hlt ?_;rw[bI,aN];refine⟨λe=>?_,λe=>?_⟩
   ·have e:s[i]=92:=(cond 92 (by omega)).1 e;rw[aF e,eX]at hb;rw[bU,upi (by omega)];refine⟨rfl,i+1,rfl,by omega,by omega,?_⟩;rw[hb,Option.map_map];congr 1;funext x;simp only[Function.comp,eY];omega
   have e:¬s[i]=92:=λh=>e ((cond 92 (by omega)).2 h);rw[aD e]at hb;rw[fC,fR,eM];refine⟨by omega,by omega,?_⟩;rw[bP,aP,hd];refine xN ?_;rw[pre_eq,cU];refine⟨λe=>?_,λe=>?_⟩
   ·rw[aF e]at hb;rw[bU,upi (by omega),bU,upi (by omega),fC,fR,eM];refine⟨by omega,by omega,?_⟩;rw[bP,aP];refine Mm (by rw[aJ];omega) ?_;have hle:=EG (s.drop (i+1)) 0;have eb:Ap (s.drop (i+1))=lR (s.drop (i+1)) 0:=rfl;rw[aJ]at hle;rw[bU,dF (by omega) (by omega)];rw[hb]at hK;simp only[jN]at hK;have e1:((0+i:Nat):Int)=(i:Int):=by omega
    have e2:((1+Ap (s.drop (i+1))+i:Nat):Int)=((i+1:Nat):Int)+(Ap (s.drop (i+1)):Nat):=by omega
    rw[e1,e2]at hK;exact hK
   ·rw[aD (by rw[e];decide)]at hb;refine⟨rfl,i,rfl,by omega,by omega,?_⟩;rw[hb,Option.map_map];congr 1;funext x;simp only[Function.comp,eY];omega
  rintro st g2 w3 ⟨rfl,j,rfl,hij,hj,hb'⟩;simp only[aE];rw[bU,upi (by omega)];refine⟨⟨j+1,rfl,trivial,hb'⟩,?_⟩;simp only[aP];omega
 ·rw[dO (by omega)]at hb;rw[hb]at hK;exact hK
end
def uW:List Str:=[[124,124],[38,38],[61,61],[33,61],[60],[62],[60,61],[62,61],[43],[45],[42],[47],[37]]
def AY(x:Int):Int:=if x=0 then 27 else if x=101 then 26 else if x=202 then 20 else if x=203 then 21 else if x=304 then 22 else if x=305 then 23 else if x=306 then 24 else if x=307 then 25 else if x=408 then 15 else if x=409 then 16 else if x=510 then 17 else if x=511 then 18 else if x=512 then 19 else 0
theorem LA:∀k:Fin 13,∀n:Fin 6,AY ((n.val:Int)*100+(k.val:Int))=sT n.val (uW[k.val]'k.isLt):=by decide+kernel
theorem zU(x:Str):∀(l:List Str) (i:Nat),(∃k,l[k]?=some x/\qB l x i=((i+k:Nat):Int))\/(x∉l/\qB l x i=-1)
 |[],i=>.inr ⟨by simp,rfl⟩
 |a::r,i=>by
  simp only[qB]
  split
  ·rename_i h
   exact .inl ⟨0,by simp[h],rfl⟩
  ·rename_i h
   rcases zU x r (i+1)with⟨k,h1,h2⟩|⟨h1,h2⟩
   ·exact .inl ⟨k+1,by simpa using h1,by rw[h2];omega⟩
   ·exact .inr ⟨by simp[h,h1],h2⟩
theorem LI{x:Str}(h:x∉uW):sT n x=0:=by
 simp only[uW,bC,dH,mD,not_or]at h;obtain⟨h1,h2,h3,h4,h5,h6,h7,h8,h9,h10,h11,h12,h13⟩:=h;unfold sT;simp only[aD h1,aD h2,aD h3,aD h4,aD h5,aD h6,aD h7,aD h8,aD h9,aD h10,aD h11,aD h12,aD h13,ite_self]
theorem Ho(hn:n<=5)(x:Str):AY ((n:Int)*100+qB uW x 0)=sT n x:=by
 rcases zU x uW 0 with⟨k,h1,h2⟩|⟨h1,h2⟩
 ·have hk:k<13:=(bF.1 h1).1;have:=LA ⟨k,hk⟩ ⟨n,by omega⟩;rw[h2,aQ,this];congr 1;exact(bF.1 h1).2
 ·rw[h2,LI h1];have:∀m:Fin 6,AY ((m.val:Int)*100+-1)=0:=by decide+kernel
  exact this ⟨n,by omega⟩
section
variable [HX]
theorem OB{x:Str}{K:Q0}(hK:K (i64 (kJ x)) w):aI P0 233 [str x] w K:=by
 refine PK ?_;unfold Vf;unfold kJ at hK;rw[oD,aN];refine⟨λh=>by rw[aF h]at hK;exact hK,λh=>?_⟩;rw[aD h]at hK;rw[oD,aN];refine⟨λh=>by rw[aF h]at hK;exact hK,λh=>?_⟩;rw[aD h]at hK;rw[oD,aN];refine⟨λh=>by rw[aF h]at hK;exact hK,λh=>?_⟩;rw[aD h]at hK;exact hK
theorem Nf{K:Q0}(h:∀v w',gE w' T v n cs->Ext w w'->K v w')(hn:cs.length=n):K (.slice (some ⟨w.heap.size,0,none⟩) n n) (w.alloc (.cells cs.toArray T)):=
 row_new λa w' ha hz hb hx _=>h _ w' (yF hb hn) hx
theorem Jl{K:Q0}(hK:∀v w',gE w' StT v 13 (strs uW)->Ext w w'->K v w'):
  fH StT 13 (List.replicate 13 (.string (ofL []))) [(0,1,(.string (ofL [124,124]))),(1,1,(.string (ofL [38,38]))),(2,1,(.string (ofL [61,61]))),(3,1,(.string (ofL [33,61]))),(4,1,(.string (ofL [60]))),(5,1,(.string (ofL [62]))),(6,1,(.string (ofL [60,61]))),(7,1,(.string (ofL [62,61]))),(8,1,(.string (ofL [43]))),(9,1,(.string (ofL [45]))),(10,1,(.string (ofL [42]))),(11,1,(.string (ofL [47]))),(12,1,(.string (ofL [37])))] w K:=by
 rw[fH];simp only[List.replicate,eA,dQ,aA,aC,aR,aV,Nat.reduceAdd,Nat.reduceLT,dB,aY];exact Nf hK rfl
theorem OJ{t:Tok}{K:Q0}(hn:n<=5)(hK:∀w',Ext w w'->K (i64 (lA t n)) w'):aI P0 204 [.agg (eK t).toArray,i64 (n:Nat)] w K:=by
 refine PT ?_;unfold Vm;refine iS (z:=eK t) λb w1 hb hz1 hbb hx1=>?_;unfold lA at hK;have ldc:∀{w':World} {off:Nat} {v:Value} {KK:Value->Prop},w'.heap[b]?=some (.cells (eK t).toArray TkT (0,0))->(eK t)[off]?=some v->KK v->bA off (.pointer (some ⟨b,0,none⟩)) λx=>ldW false 1 x w' KK:=λh hv hk=>by
  rw[bH,bO,aQ,eC];exact⟨_,by rw[cP,h,cM];simpa using hv,hk⟩
 refine ldc hbb rfl ?_;rw[gL,aN];refine⟨λh=>?_,λh=>?_⟩
 ·rw[aD h]at hK;exact hK w1 hx1
 have h:t.k=4:=by omega
 rw[aF h,<-Ho hn]at hK;rw[IS,dF (by omega) (by omega)];refine Jl λv w2 hv hx2=>?_;refine ldc (hx2.at hbb id) rfl ?_;refine IA (l:=uW) hv (by decide) ?_;have hr:-1<=qB uW t.t 0/\qB uW t.t 0<=12:=by
  rcases zU t.t uW 0 with⟨k,h1,h2⟩|⟨h1,h2⟩
  ·have hk:k<13:=(bF.1 h1).1;rw[h2];omega
  ·rw[h2];omega
 rw[bU,dF (by omega) (by omega)];generalize (n:Int)*100+qB uW t.t 0=x at*
 have hx:=hK w2 (hx1.trans hx2);unfold AY at hx;have step:∀{k r e:Int} {A B:Prop},((if x=k then r else e)=r->A)->(¬x=k->B)->aS (.bool (decide (x=k))) A B:=λh1 h2=>by
  rw[aN];exact⟨λe=>h1 (aF e),h2⟩
 iterate 13
  rw[bI,aN];refine⟨λe=>by rw[aF e]at hx;exact hx,λe=>?_⟩;rw[aD e]at hx
 exact hx
theorem oY{b:Nat}(h:w.heap[b]?=some (.cells cs.toArray T (0,0)))(hn:0<n:=by omega):gE w T (.slice (some ⟨b,0,none⟩) n n) n cs:=
 ⟨_,_,rfl,aL _,λe=>(by cases e),λ_=>⟨b,0,cs.toArray,_,rfl,h,λi _=>by simp⟩⟩
section
variable{w0 w:World}{p f:Nat}{M:Lay}{vt:Value}{s:PS}{top:List Nat}{N:Int}{K:Q0}
theorem Il{t:Tok}(h:PR w0 w p f M vt s top)(hx:Ar t.t)(hl:t.t.length<=1000000)(hK:∀l s',kX s t=.ok l s'->∀w',Ext w w'->K (str l) w')(ht:∀c a,kX s t=.err c a->Thr w0 f c a):
  aI P0 63 [.pointer (some ⟨p,0,none⟩),.agg (eK t).toArray] w K:=by
 refine TF ?_;unfold W63;refine iS (z:=eK t) λb w1 hb hz1 hbb hx1=>?_;have h1:=h.ext hx1;have L1:=h.loc hz1 hb hbb;unfold kX at hK ht;refine cK.cut (λ_ w'=>w'=w1/\(Syn.insP t.t).isSome=false) ?_ ?_
 ·refine L1.ldf rfl ?_;refine vD hl ?_;rw[bK];unfold Ev;cases hi:Syn.insP t.t with
  |none=>
   refine⟨i64 (-1),rfl,?_⟩;rw[bK];refine⟨i64 0,rfl,?_⟩;rw[oF,aN];exact⟨λe=>by omega,λ_=>⟨rfl,rfl⟩⟩
  |some x=>
   refine⟨i64 (x.1:Nat),rfl,?_⟩;rw[bK];refine⟨i64 (x.2:Nat),rfl,?_⟩;rw[oF,aN];refine⟨λ_=>?_,λe=>by omega⟩;refine L1.ldf rfl ?_;exact pI h1 (ht _ _ (by rw[hi];rfl))
 rintro st g w2 ⟨rfl,hi⟩;rw[aD (by rw[hi];decide)]at hK;refine L1.ldf rfl ?_;refine GR ((DK hx).1 (by cases hr:Syn.insP t.t with|none=>rfl|some x=>rw[hr]at hi;cases hi)) hl λw3 hx3=>?_;exact hK _ _ rfl w3 (hx1.trans hx3)
theorem Hn{s:PS}(h:(cur s).k=5):dG (step1 (aM s))=dG s:=by
 have ht:(aM s).toks=s.toks:=by unfold aM;split<;>rfl
 have hk:(jX (aM s)).k=5:=h;have hlt:(aM s).i<(aM s).toks.length:=by
  by_cases hl:(aM s).i<(aM s).toks.length
  ·exact hl
  ·unfold jX at hk;rw[aH,cA (by omega)]at hk;cases hk
 have hg:(aM s).toks[(aM s).i]?=some (jX (aM s)):=by unfold jX;rw[aH,aG hlt];rfl
 have e:=rV hg;rw[aF hk]at e;have hq:s.quiet=false:=by
  by_cases hq:s.quiet=true
  ·exfalso;have e2:aM (aM s)=aM s:=fW s;have hq2:(aM s).quiet=true:=by unfold aM;split<;>exact hq
   have e3:(aM (aM s)).i=(aM s).i+eS ((aM s).toks.drop (aM s).i):=by
    rw[aM,aF hq2]
   rw[e2]at e3;omega
  ·simpa using hq
 have n1:∀s:PS,s.quiet=false->aM s=s:=λs h=>by unfold aM;rw[h];rfl
 have h1:=n1 s hq;rw[h1]at e⊢;have h2:=n1 (step1 s) hq;unfold dG;rw[h1,h2];show({s with i:=s.i+1+eS (s.toks.drop (s.i+1))}:PS)={s with i:=s.i+eS (s.toks.drop s.i)};rw[e];congr 1;omega
theorem Hm{N:Int}{s:PS}(hs:WS N s)(h:(cur s).k≠5):dG s=aM s:=by
 have hn:=(eW hs).ws hs;have e:=rV (uR hn);have hk:(jX (aM s)).k≠5:=h;rw[aD hk,(eW hs).toks]at e;unfold dG;rw[e];rfl
theorem wJ(h:PR w0 w p f M vt s top)(hs:WS N s)(hN:N<=1000000)(hl:s.toks.length<=100000)(hK:∀w',PR w0 w' p f M vt (dG s) top->Eff p f M M w w'->K (.tuple #[]) w'):
  aI P0 30 [.pointer (some ⟨p,0,none⟩)] w K:=by
 refine TV ?_;unfold W30;refine dD.go (λst w'=>st=[]/\∃s1,PR w0 w' p f M vt s1 top/\WS N s1/\s1.toks=s.toks/\dG s1=dG s/\Eff p f M M w w') (λ_ w'=>s.toks.length-xL w' p) ⟨rfl,s,h,hs,rfl,rfl,Eff.refl _ _ _ _⟩ ?_;rintro st g w2 ⟨rfl,s1,h2,hs1,et,el,he2⟩;refine mG h2 hs1 hN (by rw[et];exact hl) λw3 h3 he3=>?_;refine⟨i64 (cur s1).k,rfl,?_⟩;dsimp only;rw[bI,aN];have hg:=eW hs1;have hsn:=hg.ws hs1;refine⟨λhk=>?_,λhk=>?_⟩
 ·have hk0:(cur s1).k≠0:=by rw[hk];decide
  have hst:=iP hs1 hk0;refine h3.go (wsi hsn (by rw[hg.toks,et];exact hl)) λw4 h4 he4 hz4=>?_;refine⟨⟨rfl,_,h4,hst.1.ws hs1,hst.1.toks.trans et,(Hn hk).trans el,(he2.trans he3).trans he4⟩,?_⟩;rw[h4.at_,h2.at_];have:=hst.2;have h5:=hst.1.lt;rw[hst.1.toks,et]at h5;omega
 ·rw[Hm hs1 hk]at el;rw[el]at h3;exact hK w3 h3 (he2.trans he3)
theorem nM{a:Int}{q:Bool}{fv:Value}(h:PR w0 w p f M vt s top)(hd:s.deep<=24)(hbad:s.deep=24->Thr w0 f 7 a)
  (hf:s.deep≠24->∀w1,PR w0 w1 p f M vt {s with deep:=s.deep+1,quiet:=q} top->Eff p f M M w w1->AE P0 fv [] w1 λ_ w2=>∃M2 s2,PR w0 w2 p f M2 vt s2 top/\s2.deep=s.deep+1/\
    ∀w3,PR w0 w3 p f M2 vt {s2 with deep:=s.deep,quiet:=s.quiet} top->Eff p f M2 M2 w2 w3->K (.tuple #[]) w3):
  aI P0 66 [.pointer (some ⟨p,0,none⟩),i64 a,.bool q,fv] w K:=by
 refine TB ?_;unfold W66;refine cK.cut (λ_ w'=>w'=w/\s.deep≠24) ?_ ?_
 ·refine h.ld rfl ?_;rw[bI,aN];refine⟨λe=>?_,λe=>⟨rfl,λh=>e (by rw[h];rfl)⟩⟩;exact pI h (hbad (by omega))
 rintro st g w1 ⟨rfl,hne⟩;refine h.ld rfl ?_;refine h.ld rfl ?_;rw[bU,upi (by omega)];refine h.st_deep λw2 h2 he2 hz2=>?_;refine h2.st_quiet (q:=q) λw3 h3 he3 hz3=>?_;have hc:=hf hne w3 h3 (he2.trans he3);refine Res.mono ?_ hc;rintro v w4 ⟨M2,s2,h4,e4,hk⟩;refine h4.ld rfl ?_;rw[nZ,dF (by omega) (by omega)];have e:((s2.deep:Nat):Int)-1=((s.deep:Nat):Int):=by omega
 rw[e];refine h4.st_deep λw5 h5 he5 hz5=>?_;refine h5.st_quiet (q:=s.quiet) λw6 h6 he6 hz6=>?_;exact hk w6 h6 (he5.trans he6)
theorem He{M0:Lay}{wb:World}{e:Ex}{d:List Value}(h:PR w0 w p f M vt s top)(he:Eff p f M0 M wb w)(hd:ExR w w0.heap.size e d)(hu:∀k∈ub d,Off w0 w p f M vt k)(hn:(ub d).Nodup)(hnew:∀k∈ub d,wb.heap.size<=k)(hlen:s.ex.length<=1000000)
  (hK:∀M' w',PR w0 w' p f M' vt {s with ex:=s.ex++[e]} top->Eff p f M0 M' wb w'->(∀b T cs,Loc w0 w p f M vt b T cs->b∉ub d->Loc w0 w' p f M' vt b T cs)->K (i64 (s.ex.length:Nat)) w'):
  aI P0 158 [.pointer (some ⟨p,0,none⟩),.agg d.toArray] w K:=by
 refine PZ ?_;unfold Vs;have hdl:d.length=5:=by obtain⟨va,vk,rfl,_⟩:=hd;rfl
 have hd1:∀u∈d,nK u=true:=by
  obtain⟨va,vk,rfl,h1,h2⟩:=hd;obtain⟨_,_,rfl,_⟩:=h1.sl.shape;obtain⟨_,_,rfl,_⟩:=h2.sl.shape;intro u hu;simp only[bC,dH,mD]at hu;rcases hu with rfl|rfl|rfl|rfl|rfl<;>rfl
 refine iS (z:=d) λb w1 hb hz1 hbb hx1=>?_;have h1:=(h.ext hx1).drew;have hx1':Ext w w1.drew:=hx1.trans (bM _);have L1:=(h.loc hz1 hb hbb).drew;have ldF:∀{w':World},w'.heap[p]?=some (.cells [vt,i64 (s.i:Nat),i64 s.off,.pointer (some ⟨f,0,none⟩),i64 (s.deep:Nat),.bool s.quiet].toArray PsT (0,0))->ldW false 1 (.pointer (some ((⟨p,0,none⟩:Addr).add 3))) w' λx=>x=.pointer (some ⟨f,0,none⟩):=by
  intro w' h;rw[eC];exact⟨_,by rw[bO,cP,h,cM];rfl,rfl⟩
 have ldE:∀{w':World} {v:Value} {r:List Value},w'.heap[f]?=some (.cells (v::r).toArray FlT (0,0))->w'.cell? ((⟨f,0,none⟩:Addr).add 0)=some v:=by
  intro w' v r h;rw[bO,cP,h,cM];rfl
 have use:∀k,M.vE.ownBlock=some k->k∈M.uses f:=λk hk=>aK _ (kF (v:=M.vE) (by simp) hk);have nE:¬M.vE.ownBlock=some p:=λe=>h.np (use p e);have nF:¬M.vE.ownBlock=some f:=λe=>by
  have hnd:=h.fr.nd;rw[GH,jO]at hnd;exact hnd.1 (dI _ (fX.2 e))
 have pf:p≠f:=λe=>h.np (e▸aX);have cF:∀{w':World},w'.heap[p]?=some (.cells [vt,i64 (s.i:Nat),i64 s.off,.pointer (some ⟨f,0,none⟩),i64 (s.deep:Nat),.bool s.quiet].toArray PsT (0,0))->w'.cell? ((⟨p,0,none⟩:Addr).add 3)=some (.pointer (some ⟨f,0,none⟩)):=by
  intro w' h;rw[bO,cP,h,cM];rfl
 rw[dZ,bH,eC];refine⟨_,cF h1.ps,?_⟩;rw[dZ,bH,eC];refine⟨_,cF h1.ps,?_⟩;rw[dZ,bH,eC];refine⟨_,ldE h1.fr.hf,?_⟩;refine fY L1.1 hdl ?_;refine zJ hdl rfl λr w2 hr hz2 hrb hx2=>?_;have h2:=h1.ext hx2;refine⟨by rw[eC];exact⟨_,ldE h2.fr.hf,rfl⟩,ldF h2.ps,ldF h2.ps,?_⟩;have hx02:Ext w w2:=hx1'.trans hx2;have hc0:Chg (λk=>M.vE.ownBlock=some k) w w2:=Chg.of_ext hx02;refine mA UM h2.fr.oE (oY (n:=1) (T:=ExT) (cs:=d) hrb) (by rw[hdl]) hd1 (by omega) (by omega) h2.base λv' w3 hO3 hc3 hv3=>?_;have hp3:=hc3.at h2.ps nE;have hf3:=hc3.at h2.fr.hf nF;refine⟨ldF hp3,?_⟩;rw[dZ,bH,bO,aQ];obtain⟨vp,vc,ev,_⟩:=hO3.sl.shape;refine qA hf3 (by rw[ev];rfl) (by simp) λw4 hz4 hf4 hc4=>?_;have hz02:=hx02.size;obtain⟨h4,he4,hk4⟩:=h.putE (w1:=w3) (w2:=w4) (v':=v') he hd hu hn hnew hO3 (hc0.trans hc3) (λk hk=>(hv3 k hk).imp id λe=>by omega) hc4 (by rw[hf4];simp);rw[dZ,bH,eC];refine⟨_,cF h4.ps,?_⟩;rw[dZ,bH,eC];refine⟨_,ldE h4.fr.hf,?_⟩;dsimp only;rw[ev,AZ,nZ,dF (by omega) (by omega)];have e1:((s.ex.length+1:Nat):Int)-1=(s.ex.length:Nat):=by omega
 rw[e1];exact hK _ w4 h4 he4 hk4
end
end
structure Gd(N:Int)(s:PS)(dl:Nat):Prop where
 ws:WS N s
 hN:N<=1000000
 few:s.toks.length<=4097
 ts:TS s.toks
 phi:phi s<=100000
 lev:s.deep+dl=24
theorem Gd.l{N:Int}{s:PS}{dl:Nat}(h:Gd N s dl):s.toks.length<=100000:=by have:=h.few;omega
theorem Gd.go{N:Int}{s s':PS}{dl:Nat}(h:Gd N s dl)(hg:Go1 N s s')(hp:Syn.phi s'<=Syn.phi s):Gd N s' dl:=
 ⟨hg.ws h.ws,h.hN,by rw[hg.toks];exact h.few,by rw[hg.toks];exact h.ts,bZ hp h.phi,by rw[hg.deep];exact h.lev⟩
theorem Gd.frame{N:Int}{s:PS}{dl:Nat}(h:Gd N s (dl+1))(q:Bool):Gd N {s with deep:=s.deep+1,quiet:=q} dl:=⟨uN h.ws _ _,h.hN,h.few,h.ts,h.phi,by have:=h.lev;show s.deep+1+dl=24;omega⟩
theorem Gd.back{N:Int}{s s':PS}{dl:Nat}{q:Bool}(h:Gd N s (dl+1))(h':Gd N s' dl):Gd N {s' with deep:=s.deep,quiet:=q} (dl+1):=⟨uN h'.ws _ _,h.hN,h'.few,h'.ts,h'.phi,h.lev⟩
theorem Gd.now{N:Int}{s:PS}{dl:Nat}(h:Gd N s dl):Gd N (aM s) dl:=h.go (eW h.ws) (jD s)
theorem Gd.take{N:Int}{s:PS}{dl:Nat}(h:Gd N s dl)(w:Str):Gd N (aW s w).2 dl:=h.go (iO h.ws w).1 (kI s w).1
theorem Gd.lines{N:Int}{s:PS}{dl:Nat}(h:Gd N s dl):Gd N (dG s) dl:=h.go (kK h.ws).1 (sP s)
theorem Gd.next{N:Int}{s:PS}{dl:Nat}(h:Gd N s dl):Gd N (fB s) dl:=h.go (qJ h.ws).1 (sO s).1
theorem Gd.step{N:Int}{s:PS}{dl:Nat}(h:Gd N s dl)(hk:(cur s).k≠0):Gd N (step1 (aM s)) dl:=h.go (iP h.ws hk).1 (by have:=(nT hk).2;omega)
theorem Gd.want{N:Int}{s s':PS}{dl:Nat}(h:Gd N s dl){w:Str}(e:jR s w=.ok () s'):Gd N s' dl/\s.i<s'.i/\s'.ex=s.ex/\s'.bl=s.bl:=by
 have h1:=jQ h.ws w;have h2:=kH s w;rw[e]at h1 h2;obtain⟨g,x,b⟩:=h1;exact⟨h.go g.1 (by have h2:Syn.phi s'+1<=Syn.phi s:=h2;omega),g.2,x,b⟩
theorem Gd.kind{N:Int}{s s':PS}{dl:Nat}{t:Tok}{k:Int}(h:Gd N s dl)(hk:k≠0)(e:iC s k=.ok t s'):Gd N s' dl/\s.i<s'.i/\s'.ex=s.ex/\s'.bl=s.bl/\t=cur s/\t.k=k:=by
 have h1:=lH h.ws k hk;have h2:=mQ s k;rw[e]at h1 h2;obtain⟨g,x,b,ht,hk⟩:=h1;exact⟨h.go g.1 h2.1,g.2,x,b,ht,hk⟩
theorem Gd.ex{N:Int}{s:PS}{dl:Nat}(h:Gd N s dl):s.ex.length<=100000/\s.bl.length<=100000:=by have:=SF s;have:=h.phi;omega
structure pZ(F:PS->R Nat):Prop where
 ok:∀N,EOk N F
 z:EZ F
theorem Gd.e{N:Int}{s s':PS}{dl x:Nat}{F:PS->R Nat}(h:Gd N s dl)(hF:pZ F)(e:F s=.ok x s'):Gd N s' dl/\s.i<s'.i:=by
 have h1:=hF.ok N s h.ws;have h2:=hF.z s;rw[e]at h1 h2;exact⟨h.go h1.1.1 h2,h1.1.2⟩
theorem Gd.at0{N:Int}{s:PS}{dl:Nat}(h:Gd N s dl):0<=(cur s).a/\(cur s).a<=1000000:=by have:=iQ h.ws;have:=h.hN;omega
section
variable [HX]
def vQ(w0:World)(f:Nat):Prop:=∀(w:World) (K:Q0) (s:Str),Chg (Of f) w0 w->s.length<=1000000->
 (∀l,iI s=.ok l->∀v w',Ext w w'->gE w' TkT v l.length (toks l)->(∀k,v.ownBlock=some k->w.heap.size<=k/\k<w'.heap.size)->K (.tuple #[v,.pointer none]) w')->
 (∀c a,iI s=.bad c a->∀d w',Ext w w'->w.heap.size<=d->w'.heap[d]?=some (.cells [i64 c,str [],i64 a].toArray 48 (0,0))->K (.tuple #[.slice none 0 0,.pointer (some ⟨d,0,none⟩)]) w')->
 aI P0 28 [str s] w K
def EC(w0:World)(f:Nat)(g:FuncId)(F:PS->R Nat)(dl:Nat):Prop:=∀(w:World) (p:Nat) (M:Lay) (vt:Value) (s:PS) (top:List Nat) (N:Int) (K:Q0),PR w0 w p f M vt s top->Gd N s dl->
 (∀x s',F s=.ok x s'->∀M' w',PR w0 w' p f M' vt s' top->Eff p f M M' w w'->K (i64 (x:Nat)) w')->(∀c a,F s=.err c a->Thr w0 f c a)->aI P0 g [.pointer (some ⟨p,0,none⟩)] w K
structure Ro(w0 w:World)(p f:Nat)(M:Lay)(vt:Value)(wb:Nat)(T:TypeId)(m:Nat)(v:Value)(n:Nat)(xs:List Value):Prop where
 own:Own w w0.heap.size T m v n xs
 off:∀k,v.ownBlock=some k->Off w0 w p f M vt k
 new:∀k,v.ownBlock=some k->wb<=k
section
variable{w0 w w' w1:World}{p f b:Nat}{M M':Lay}{vt:Value}{s:PS}{top:List Nat}{N:Int}{K:Q0}{wb:Nat}{T:TypeId}{m:Nat}{v:Value}{n:Nat}{xs:List Value}
theorem Ro.nil(T:TypeId)(m:Nat):Ro w0 w p f M vt wb T m (.slice none 0 0) 0 []:=⟨⟨by simp,.inl ⟨rfl,rfl⟩⟩,λk hk=>by simp[Value.ownBlock]at hk,λk hk=>by simp[Value.ownBlock]at hk⟩
theorem Ro.eff(h:Ro w0 w p f M vt wb T m v n xs)(he:Eff p f M M' w w'):Ro w0 w' p f M' vt wb T m v n xs:=⟨he.own h.own h.off,λk hk=>(h.off k hk).eff he,h.new⟩
theorem Ro.ext(h:Ro w0 w p f M vt wb T m v n xs)(hx:Ext w w'):Ro w0 w' p f M vt wb T m v n xs:=h.eff (Eff.ext hx)
theorem Ro.one(h:Ro w0 w p f M vt wb T m v n xs)(hc:Chg (One b) w w')(hb:v.ownBlock≠some b):Ro w0 w' p f M vt wb T m v n xs:=
 ⟨iG h.own hc λk hk e=>hb (by have e:k=b:=e;rw[hk,e]),λk hk=>(h.off k hk).up hc.size,h.new⟩
theorem Ro.row{u:Value}(h:Ro w0 w p f M vt wb T m v n xs)(hc:Chg (λk=>u.ownBlock=some k) w w')(hb:∀k,v.ownBlock=some k->u.ownBlock≠some k):Ro w0 w' p f M vt wb T m v n xs:=
 ⟨iG h.own hc λk hk e=>hb k hk e,λk hk=>(h.off k hk).up hc.size,h.new⟩
theorem Loc.row{u:Value}(h:Loc w0 w p f M vt b T cs)(hc:Chg (λk=>u.ownBlock=some k) w w')(hb:u.ownBlock≠some b):Loc w0 w' p f M vt b T cs:=⟨hc.at h.1 hb,h.2.up hc.size⟩
theorem PR.row{u:Value}(h:PR w0 w p f M vt s top)(hc:Chg (λk=>u.ownBlock=some k) w w')(hb:∀k,u.ownBlock=some k->Off w0 w p f M vt k):PR w0 w' p f M vt s top:=
 h.keep hc (λk hk e=>by have:=(hb k e).1.1;omega) (λk hk e=>(hb k e).2.2.1 hk) (λe=>(hb p e).2.1 rfl) λk hk e=>(hb k e).2.2.2 hk
theorem Ro.app{t:TypeId}{bytes:Nat}{r:Nat}{news:List Value}{ty:TypeId}(hT:uI P0 t T m bytes)(hR:Ro w0 w p f M vt wb T m v n xs)(hp:PR w0 w p f M vt s top)(hr:w.heap[r]?=some (.cells news.toArray T (0,0)))(hl:news.length=m)(h1:∀u∈news,nK u=true)(hn:n<=1000000)(hby:bytes<=1000)(hwb:wb<=w.heap.size)
  (hK:∀v' w',Ro w0 w' p f M vt wb T m v' (n+1) (xs++news)->Chg (λk=>v.ownBlock=some k) w w'->(∀k,v'.ownBlock=some k->v.ownBlock=some k\/w.heap.size<=k)->PR w0 w' p f M vt s top->K v' w'):
  fG P0 (Builtin.append_ #[t,t] ty #[v,.slice (some ⟨r,0,none⟩) 1 1]) w K:=by
 have hb:=hp.base;have hbt:(n+1)*bytes<=140737488355328:=bZ (Nat.mul_le_mul (show n+1<=1000001 by omega) hby) (by decide);refine mA hT hR.own (oY (n:=1) hr) (by rw[hl];omega) h1 (by omega) hbt hb λv' w' hO hc hv=>?_;refine hK v' w' ⟨hO,λk hk=>?_,λk hk=>?_⟩ hc hv (hp.row hc hR.off)
 ·rcases hv k hk with e|e
  ·exact(hR.off k e).up hc.size
  ·exact hp.off_new e (pF hO hk).1
 ·rcases hv k hk with e|e
  ·exact hR.new k e
  ·omega
theorem PR.inner{q:Nat}{q':PS}(h:PR w0 w p f M vt s top)(hx:Ext w w1)(hq:PR w0 w' q f M' v q' top)(he:Eff q f M M' w1 w')(hqn:w.heap.size<=q):
  PR w0 w' p f M' vt {s with ex:=q'.ex,bl:=q'.bl} top/\Eff p f M M' w w':=by
 have he':Eff p f M M' w w':=Eff.anew hx he hqn;have hz:=hx.size;have h1:=h.ext hx;refine⟨⟨hq.ch,hq.fr,?_,?_,λe=>?_,h.lo,λk hk=>⟨λe=>?_,(h.nt k hk).2.1,bX (h.nt k hk).2.2 he'.chg.size⟩⟩,he'⟩
 ·exact he.chg.at h1.ps λe=>by
   rcases GK e with e|e
   ·have:=h.lt;omega
   ·exact h.np e
 ·exact vU h1.tk he.chg λk hk e=>by
   rcases GK e with e|e
   ·have:=(h.nt k hk).2.2;omega
   ·exact(h.nt k hk).1 e
 ·exact(he'.us p e).elim h.np λe=>by have:=h.lt;omega
 ·exact(he'.us k e).elim (h.nt k hk).1 λe=>by have:=(h.nt k hk).2.2;omega
theorem OQ{E:PS->R Nat}{dl:Nat}{t:Str}{a:Int}(hS:vQ w0 f)(hE:EC w0 f 118 E dl)(hF:pZ E)(h:PR w0 w p f M vt s top)(hg:Gd N s dl)(h0:0<=a)(h1:a+t.length<=N)(hphi:Syn.phi s+t.length<=100000)
  (hK:∀x s',jU E s t a=.ok x s'->∀M' w',PR w0 w' p f M' vt s' top->Eff p f M M' w w'->K (i64 (x:Nat)) w')(ht:∀c a',jU E s t a=.err c a'->Thr w0 f c a'):
  aI P0 257 [.pointer (some ⟨p,0,none⟩),str t,i64 a] w K:=by
 refine Px ?_;unfold UV;have hN:=hg.hN;refine hS w _ t h.ch (by omega) (λl hl v w1 hx1 hv hvn=>?_) (λc b hb d w1 hx1 hd hdb=>?_)
 ·rw[bK];refine⟨v,rfl,?_⟩;rw[bK];refine⟨.pointer none,rfl,?_⟩;refine cK.cut (λ_ w'=>w'=w1) ?_ ?_
  ·show aS (.bool false) _ _;rw[cQ]
  rintro st g w2 rfl;have h2:=(h.ext hx1).drew;have hx2:=hx1.trans (bM w2);refine h2.ld rfl ?_;refine h2.ld rfl ?_;obtain⟨q,cap,ev,_⟩:=hv.shape;subst ev;simp only[iA,dJ,Ef,dQ,aA,aC,aR,aV,Nat.reduceAdd,Nat.reduceLT,dB,aY];refine iS (z:=[.slice q l.length cap,i64 0,i64 a,.pointer (some ⟨f,0,none⟩),i64 (s.deep:Nat),.bool false]) λqb w3 hq hz3 hqb hx3=>?_;have hx03:=hx2.trans hx3;have h3:=h2.ext hx3;have z2:w2.drew.heap.size=w2.heap.size:=rfl;have hz1:=hx1.size;have hq3:PR w0 w3 qb f M (.slice q l.length cap) ⟨l,0,a,s.deep,false,s.ex,s.bl⟩ top:=
   ⟨h3.ch,h3.fr,hqb,hv.ext ((bM w2).trans hx3),λe=>by have:=h.fr.lt _ e;omega,by have:=h.base;omega,λk hk=>by
    have hb:=hvn k hk;exact⟨λe=>by have:=h.fr.lt _ e;omega,by omega,by omega⟩⟩
  have htg:=AR hl h0 h1;have hw:=DU hl;have hgq:Gd N ⟨l,0,a,s.deep,false,s.ex,s.bl⟩ dl:=⟨⟨htg,gW.2 htg.ne,hg.ws.pN⟩,hN,(sM hl).1,AQ hl,by
   unfold Syn.phi at hphi⊢;simp only[bJ];omega,hg.lev⟩
  unfold jU at hK ht;simp only[hl]at hK ht;refine hE w3 qb M _ _ top N _ hq3 hgq (λx q1 e1 M' w4 h4 he4=>?_) λc a' e1=>ht c a' (by rw[e1];rfl);rw[e1]at hK ht;simp only[R.bind]at hK ht;obtain⟨hg1,_⟩:=hgq.e hF e1;refine vA h4 hg1.ws hN hg1.l (λt' q2 e2 w5 h5 he5=>?_) λc a' e2=>ht c a' (by rw[e2]);rw[e2]at hK;obtain⟨h6,he6⟩:=h.inner hx03 h5 (he4.trans he5) (by omega);exact hK x _ rfl M' w5 h6 he6
 ·rw[bK];refine⟨.slice none 0 0,rfl,?_⟩;rw[bK];refine⟨.pointer (some ⟨d,0,none⟩),rfl,?_⟩;refine cK.cut (λ_ _=>False) ?_ (λ_ _ _ h=>h.elim);show aS (.bool true) _ _;rw[fP,dZ,bH,eC];refine⟨i64 c,by rw[bO,cP,heap_drew,hdb,cM];rfl,?_⟩;rw[dZ,bH,eC];refine⟨i64 b,by rw[bO,cP,heap_drew,hdb,cM];rfl,?_⟩;have hsb:=Bs hb;rw[bU,dF (by omega) (by omega)];refine pI (h.ext hx1).drew (ht _ _ ?_);unfold jU;rw[hb]
end
end
def kR(rest:Str):Nat×Nat:=match Syn.insP rest with|some x=>x|none=>(rest.length,rest.length)
def tO(s:PS)(rest:Str)(a:Int):PS:=if 0<(kR rest).1 then{s with ex:=s.ex++[⟨5,dT (rest.take (kR rest).1),[],[],a⟩]}else s
theorem FG{E:PS->R Nat}{s:PS}{rest:Str}{a:Int}{av:List Nat}{ks:List Str}(hr:rest≠[])(hn:rest.length<n+1):
  gT E (n+1) s rest a av ks=
   (if(kR rest).1<(kR rest).2 then(within (tO s rest a) (a+(kR rest).1) false λq=>jU E q ((rest.drop ((kR rest).1+2)).take ((kR rest).2-1-((kR rest).1+2))) (a+(kR rest).1+2)).bind λx s2=>
     gT E n s2 (rest.drop (kR rest).2) (a+(kR rest).2) ((if 0<(kR rest).1 then av++[s.ex.length]else av)++[x]) ((if 0<(kR rest).1 then ks++[[116]]else ks)++[[101]])
   else gT E n (tO s rest a) (rest.drop (kR rest).2) (a+(kR rest).2) (if 0<(kR rest).1 then av++[s.ex.length]else av) (if 0<(kR rest).1 then ks++[[116]]else ks)):=by
 simp only[gT];rw[aD hr];have hpos:0<rest.length:=gW.2 hr;unfold kR tO kR;cases hi:Syn.insP rest with
 |none=>
  simp only;rw[aD (Nat.lt_irrefl _),aF hpos,aF hpos,aF hpos,jY,bP];obtain⟨m,rfl⟩:∃m,n=m+1:=⟨n-1,by omega⟩;simp only[gT,gY]
 |some x=>rfl
theorem OP{rest:Str}(hx:Ar rest):(kR rest).1<=rest.length/\(kR rest).2<=rest.length/\pW (rest.take (kR rest).1)=true/\Ar (rest.drop (kR rest).2)/\((kR rest).1<(kR rest).2->(kR rest).1+3<=(kR rest).2)/\(rest≠[]->0<(kR rest).2)/\(kR rest).1<=(kR rest).2:=by
 obtain⟨h1,h2⟩:=DK hx;unfold kR;cases hi:Syn.insP rest with
 |none=>
  simp only;exact⟨aL _,aL _,by rw[bP];exact h1 hi,by rw[jY];exact .inl rfl,λe=>absurd e (Nat.lt_irrefl _),λh=>gW.2 h,aL _⟩
 |some x=>
  obtain⟨a,b,c,d⟩:=h2 x.1 x.2 hi;simp only;exact⟨by omega,c,a,d,λ_=>b,λ_=>by omega,by omega⟩
section
variable [HX]
variable{w0 w w' w1:World}{p f b:Nat}{M M':Lay}{vt:Value}{s:PS}{top:List Nat}{N:Int}{K:Q0}
abbrev PpT:TypeId:=89
structure TL(w0 w:World)(p f:Nat)(M:Lay)(vt:Value)(B1 b2 b7 b8 b9:Nat)(ta:Int)(rest:Str)(a:Int)(va vk:Value)(av:List Nat)(ks:List Str):Prop where
 l2:Loc w0 w p f M vt b2 PpT [.pointer (some ⟨p,0,none⟩)]
 l7:Loc w0 w p f M vt b7 ExT [i64 6,str [],va,vk,i64 ta]
 l8:Loc w0 w p f M vt b8 StT [str rest]
 l9:Loc w0 w p f M vt b9 gS [i64 a]
 rA:Ro w0 w p f M vt B1 gS 1 va av.length (ints av)
 rK:Ro w0 w p f M vt B1 StT 1 vk ks.length (strs ks)
 dd:∀k,va.ownBlock=some k->vk.ownBlock≠some k
 lt:b2<B1/\b7<B1/\b8<B1/\b9<B1/\B1<=w.heap.size
 ne:b2≠b7/\b2≠b8/\b2≠b9/\b7≠b8/\b7≠b9/\b8≠b9
section
variable{B1 b2 b7 b8 b9:Nat}{ta:Int}{rest:Str}{a:Int}{va vk:Value}{av:List Nat}{ks:List Str}
theorem TL.eff(h:TL w0 w p f M vt B1 b2 b7 b8 b9 ta rest a va vk av ks)(he:Eff p f M M' w w'):TL w0 w' p f M' vt B1 b2 b7 b8 b9 ta rest a va vk av ks:=
 ⟨h.l2.eff he,h.l7.eff he,h.l8.eff he,h.l9.eff he,h.rA.eff he,h.rK.eff he,h.dd,⟨h.lt.1,h.lt.2.1,h.lt.2.2.1,h.lt.2.2.2.1,bZ h.lt.2.2.2.2 he.chg.size⟩,h.ne⟩
theorem TL.ext(h:TL w0 w p f M vt B1 b2 b7 b8 b9 ta rest a va vk av ks)(hx:Ext w w'):TL w0 w' p f M vt B1 b2 b7 b8 b9 ta rest a va vk av ks:=h.eff (Eff.ext hx)
theorem TL.one(h:TL w0 w p f M vt B1 b2 b7 b8 b9 ta rest a va vk av ks)(hc:Chg (One b) w w')(hb:B1<=b)(hA:va.ownBlock≠some b)(hK:vk.ownBlock≠some b):TL w0 w' p f M vt B1 b2 b7 b8 b9 ta rest a va vk av ks:=by
 obtain⟨q1,q2,q3,q4,q5⟩:=h.lt;exact⟨h.l2.one hc (by omega),h.l7.one hc (by omega),h.l8.one hc (by omega),h.l9.one hc (by omega),h.rA.one hc hA,h.rK.one hc hK,h.dd,⟨q1,q2,q3,q4,bZ q5 hc.size⟩,h.ne⟩
theorem TL.noA(h:TL w0 w p f M vt B1 b2 b7 b8 b9 ta rest a va vk av ks){k:Nat}(hk:k<B1):va.ownBlock≠some k/\vk.ownBlock≠some k:=
 ⟨λe=>by have:=h.rA.new k e;omega,λe=>by have:=h.rK.new k e;omega⟩
theorem TL.args{w2 w3:World}{va':Value}{x:Nat}(h:TL w0 w p f M vt B1 b2 b7 b8 b9 ta rest a va vk av ks)(hR:Ro w0 w2 p f M vt B1 gS 1 va' (av++[x]).length (ints (av++[x])))(hc:Chg (λk=>va.ownBlock=some k) w w2)(hv:∀k,va'.ownBlock=some k->va.ownBlock=some k\/w.heap.size<=k)
  (hc3:Chg (One b7) w2 w3)(hb:w3.heap[b7]?=some (.cells [i64 6,str [],va',vk,i64 ta].toArray ExT (0,0))):TL w0 w3 p f M vt B1 b2 b7 b8 b9 ta rest a va' vk (av++[x]) ks:=by
 obtain⟨q1,q2,q3,q4,q5⟩:=h.lt;obtain⟨n1,n2,n3,n4,n5,n6⟩:=h.ne;have z:=hc3.size;have o7:=((h.l7.row hc (h.noA q2).1).2).up z;refine⟨(h.l2.row hc (h.noA q1).1).one hc3 n1,⟨hb,o7⟩,(h.l8.row hc (h.noA q3).1).one hc3 (uH n4),(h.l9.row hc (h.noA q4).1).one hc3 (uH n5),hR.one hc3 λe=>by have:=hR.new b7 e;omega,
  (h.rK.row hc λk hk e=>h.dd k e hk).one hc3 (h.noA q2).2,λk hk=>?_,⟨q1,q2,q3,q4,bZ q5 (bZ hc.size z)⟩,h.ne⟩
 rcases hv k hk with e|e
 ·exact h.dd k e
 ·intro e';have:=(h.rK.off k e').1.2;omega
theorem TL.keys{w2 w3:World}{vk':Value}{x:Str}(h:TL w0 w p f M vt B1 b2 b7 b8 b9 ta rest a va vk av ks)(hR:Ro w0 w2 p f M vt B1 StT 1 vk' (ks++[x]).length (strs (ks++[x])))(hc:Chg (λk=>vk.ownBlock=some k) w w2)(hv:∀k,vk'.ownBlock=some k->vk.ownBlock=some k\/w.heap.size<=k)
  (hc3:Chg (One b7) w2 w3)(hb:w3.heap[b7]?=some (.cells [i64 6,str [],va,vk',i64 ta].toArray ExT (0,0))):TL w0 w3 p f M vt B1 b2 b7 b8 b9 ta rest a va vk' av (ks++[x]):=by
 obtain⟨q1,q2,q3,q4,q5⟩:=h.lt;obtain⟨n1,n2,n3,n4,n5,n6⟩:=h.ne;have z:=hc3.size;have o7:=((h.l7.row hc (h.noA q2).2).2).up z;refine⟨(h.l2.row hc (h.noA q1).2).one hc3 n1,⟨hb,o7⟩,(h.l8.row hc (h.noA q3).2).one hc3 (uH n4),(h.l9.row hc (h.noA q4).2).one hc3 (uH n5),(h.rA.row hc λk hk e=>h.dd k hk e).one hc3 (h.noA q2).1,
  hR.one hc3 λe=>by have:=hR.new b7 e;omega,λk hk e'=>?_,⟨q1,q2,q3,q4,bZ q5 (bZ hc.size z)⟩,h.ne⟩
 rcases hv k e' with e|e
 ·exact h.dd k hk e
 ·have:=(h.rA.off k hk).1.2;omega
theorem TL.appA{x:Nat}{r:Nat}{ty:TypeId}{KW:World->Prop}(h:TL w0 w p f M vt B1 b2 b7 b8 b9 ta rest a va vk av ks)(hp:PR w0 w p f M vt s top)(hr:w.heap[r]?=some (.cells [i64 (x:Nat)].toArray gS (0,0)))(hn:av.length<=1000000)
  (hK:∀va' w',TL w0 w' p f M vt B1 b2 b7 b8 b9 ta rest a va' vk (av++[x]) ks->PR w0 w' p f M vt s top->Chg (λk=>va.ownBlock=some k\/k=b7) w w'->(∀k,va'.ownBlock=some k->va.ownBlock=some k\/w.heap.size<=k)->KW w'):
  fG P0 (Builtin.append_ #[26,26] ty #[va,.slice (some ⟨r,0,none⟩) 1 1]) w λt62 w36=>bA 2 (.pointer (some ⟨b7,0,none⟩)) λt63=>stW 1 t63 t62 w36 KW:=by
 obtain⟨q1,q2,q3,q4,q5⟩:=h.lt;refine Ro.app Ak h.rA hp hr rfl (λu hu=>by simp only[aU]at hu;subst hu;rfl) hn (by decide) q5 λv' w2 hR hc hv hp2=>?_;have e1:(av++[x]).length=av.length+1:=by simp
 have e2:ints (av++[x])=ints av++[i64 (x:Nat)]:=by simp[ints]
 rw[<-e1,<-e2]at hR;rw[bH,bO,aQ];obtain⟨vp,vc,ev,_⟩:=hR.own.sl.shape;refine(h.l7.row hc (h.noA q2).1).st (by rw[ev];rfl) (by simp) λw3 L3 hc3 hz3=>?_;exact hK v' w3 (h.args hR hc hv hc3 (by rw[L3.1];rfl)) (hp2.one hc3 ⟨⟨L3.2.1.1,by have:=L3.2.1.2;omega⟩,L3.2.2⟩) ((hc.mono λk _ e=>.inl e).trans (hc3.mono λk _ e=>.inr e)) hv
theorem TL.appK{x:Str}{r:Nat}{ty:TypeId}{KW:World->Prop}(h:TL w0 w p f M vt B1 b2 b7 b8 b9 ta rest a va vk av ks)(hp:PR w0 w p f M vt s top)(hr:w.heap[r]?=some (.cells [str x].toArray StT (0,0)))(hn:ks.length<=1000000)
  (hK:∀vk' w',TL w0 w' p f M vt B1 b2 b7 b8 b9 ta rest a va vk' av (ks++[x])->PR w0 w' p f M vt s top->Chg (λk=>vk.ownBlock=some k\/k=b7) w w'->(∀k,vk'.ownBlock=some k->vk.ownBlock=some k\/w.heap.size<=k)->KW w'):
  fG P0 (Builtin.append_ #[33,33] ty #[vk,.slice (some ⟨r,0,none⟩) 1 1]) w λt62 w36=>bA 3 (.pointer (some ⟨b7,0,none⟩)) λt63=>stW 1 t63 t62 w36 KW:=by
 obtain⟨q1,q2,q3,q4,q5⟩:=h.lt;refine Ro.app IK h.rK hp hr rfl (λu hu=>by simp only[aU]at hu;subst hu;rfl) hn (by decide) q5 λv' w2 hR hc hv hp2=>?_;have e1:(ks++[x]).length=ks.length+1:=by simp
 have e2:strs (ks++[x])=strs ks++[str x]:=by simp[strs]
 rw[<-e1,<-e2]at hR;rw[bH,bO,aQ];obtain⟨vp,vc,ev,_⟩:=hR.own.sl.shape;refine(h.l7.row hc (h.noA q2).2).st (by rw[ev];rfl) (by simp) λw3 L3 hc3 hz3=>?_;exact hK v' w3 (h.keys hR hc hv hc3 (by rw[L3.1];rfl)) (hp2.one hc3 ⟨⟨L3.2.1.1,by have:=L3.2.1.2;omega⟩,L3.2.2⟩) ((hc.mono λk _ e=>.inl e).trans (hc3.mono λk _ e=>.inr e)) hv
theorem Rk{E:PS->R Nat}{dl e b10 b11:Nat}{M0:Lay}{wb:World}(he0:Eff p f M0 M wb w)(hw7:wb.heap.size<=b7)(hwB:wb.heap.size<=B1)(hS:vQ w0 f)(hE:EC w0 f 118 E dl)(hF:pZ E)(h:PR w0 w p f M vt s top)(hg:Gd N s dl)(hT:TL w0 w p f M vt B1 b2 b7 b8 b9 ta rest a va vk av ks)
  (l10:Loc w0 w p f M vt b10 gS [i64 (i:Nat)])(l11:Loc w0 w p f M vt b11 gS [i64 (e:Nat)])(n10:va.ownBlock≠some b10/\vk.ownBlock≠some b10/\b10≠b7)(n11:va.ownBlock≠some b11/\vk.ownBlock≠some b11/\b11≠b7)
  (hie:i+3<=e)(hel:e<=rest.length)(h0:0<=a)(h1:a+rest.length+1<=N)(hphi:Syn.phi s+(e-1-(i+2))<=100000)(hn:av.length<=1000000)
  (hK:∀x s',jU E s ((rest.drop (i+2)).take (e-1-(i+2))) (a+i+2)=.ok x s'->∀M' va' w',PR w0 w' p f M' vt s' top->Eff p f M0 M' wb w'->TL w0 w' p f M' vt B1 b2 b7 b8 b9 ta rest a va' vk (av++[x]) ks->
    Loc w0 w' p f M' vt b10 gS [i64 (i:Nat)]->Loc w0 w' p f M' vt b11 gS [i64 (e:Nat)]->(va'.ownBlock≠some b10/\va'.ownBlock≠some b11)->K (.tuple #[]) w')
  (ht:∀c a',jU E s ((rest.drop (i+2)).take (e-1-(i+2))) (a+i+2)=.err c a'->Thr w0 f c a'):
  aI P0 256 [.pointer (some ⟨b7,0,none⟩),.pointer (some ⟨b2,0,none⟩),.pointer (some ⟨b8,0,none⟩),.pointer (some ⟨b10,0,none⟩),.pointer (some ⟨b11,0,none⟩),.pointer (some ⟨b9,0,none⟩)] w K:=by
 refine Py ?_;unfold UW;have hN:=hg.hN;have T1:=hT.ext (bM w);have h1':=h.drew;have k10:=l10.drew;have k11:=l11.drew;rw[bH,bO,aQ];refine T1.l7.ld rfl ?_;refine T1.l2.ld rfl ?_;refine T1.l8.ld rfl ?_;refine k10.ld rfl ?_;rw[bU,dF (by omega) (by omega)];refine k11.ld rfl ?_;rw[nZ,dF (by omega) (by omega),fC,eM];refine⟨by omega,by omega,?_⟩;rw[eM];refine⟨by omega,by omega,?_⟩;refine T1.l9.ld rfl ?_;refine k10.ld rfl ?_;rw[bU,dF (by omega) (by omega),bU,dF (by omega) (by omega)];have et:(rest.take ((e:Int)-1).toNat).drop ((i:Int)+2).toNat=(rest.drop (i+2)).take (e-1-(i+2)):=by
  rw[show((e:Int)-1).toNat=e-1 by omega,show((i:Int)+2).toNat=i+2 by omega,List.drop_take]
 rw[et];have hlen:((rest.drop (i+2)).take (e-1-(i+2))).length=e-1-(i+2):=by rw[cG,aJ];omega
 refine OQ hS hE hF h1' hg (by omega) (by rw[hlen];omega) (by rw[hlen];exact hphi) (λx s' hx M' w2 h2 he2=>?_) ht;have T2:=T1.eff he2;have ld7:∀{w3:World},TL w0 w3 p f M' vt B1 b2 b7 b8 b9 ta rest a va vk av ks->ldW false 1 (.pointer (some ⟨b7,2,none⟩)) w3 λx=>x=va:=λT=>T.l7.ld rfl rfl;refine⟨ld7 T2,?_⟩;refine jC λr w3 hr hz3 hrb hx3=>?_;have T3:=T2.ext hx3;refine⟨ld7 T3,?_⟩;refine T3.appA (h2.ext hx3) hrb hn λva' w4 T4 h4 hc4 hv4=>?_;have he23:=(Eff.ext (bM w)).trans (he2.x hx3);have z3:=he23.chg.size;have j10:=(k10.eff he2).ext hx3;have j11:=(k11.eff he2).ext hx3;have b7o:=T3.l7.2;have heb:Eff p f M0 M' wb w4:=(he0.trans he23).then hc4 λk hk e=>by
  rcases e with e|e
  ·have:=hT.rA.new k e;omega
  ·omega
 exact hK x s' hx M' va' w4 h4 heb T4 ⟨hc4.at j10.1 λe=>e.elim n10.1 n10.2.2,j10.2.up hc4.size⟩ ⟨hc4.at j11.1 λe=>e.elim n11.1 n11.2.2,j11.2.up hc4.size⟩ ⟨λe=>(hv4 _ e).elim n10.1 λe=>by have:=j10.lt;omega,λe=>(hv4 _ e).elim n11.1 λe=>by have:=j11.lt;omega⟩
end
end
def KC(w:World)(b:Nat):Nat:=match w.heap[b]? with|some (.cells c _ _)=>(match(c[0]?:Option Value)with|some (Value.string t)=>t.size|_=>0)|_=>0
section
variable [HX]
variable{w0 w w' w1:World}{p f b:Nat}{M M':Lay}{vt:Value}{s:PS}{top:List Nat}{N:Int}{K:Q0}
theorem Loc.strat{rest:Str}(h:Loc w0 w p f M vt b StT [str rest]):KC w b=rest.length:=by
 unfold KC;rw[h.1];simp[gN]
theorem sZ{K:Q0}(h1:nK v=true)(h:∀a w',a=w.heap.size->w'.heap.size=w.heap.size+1->w'.heap[a]?=some (.cells [v].toArray T (0,0))->Ext w w'->K (.pointer (some ⟨a,0,none⟩)) w'):mR T v w K:=by
 have hc:v.cells=#[v]:=by cases v<;>first|rfl|(simp[nK]at h1)
 unfold mR;rw[hc];exact h _ _ rfl (by simp) (kO _ _ _ rfl) (Chg.alloc (Chg.refl _ _) _)
theorem Gd.put{N:Int}{s:PS}{dl:Nat}(h:Gd N s dl){e:Ex}(hp:Syn.phi s+1<=100000):Gd N {s with ex:=s.ex++[e]} dl:=⟨⟨h.ws.tg,h.ws.lt,h.ws.pN⟩,h.hN,h.few,h.ts,bZ (jZ s e) hp,h.lev⟩
theorem Fx{M0:Lay}{wb:World}{l:Str}{a:Int}(h:PR w0 w p f M vt s top)(he:Eff p f M0 M wb w)(hlen:s.ex.length<=1000000)
  (hK:∀M' w',PR w0 w' p f M' vt {s with ex:=s.ex++[⟨5,l,[],[],a⟩]} top->Eff p f M0 M' wb w'->(∀b T cs,Loc w0 w p f M vt b T cs->Loc w0 w' p f M' vt b T cs)->(∀wb T m v n xs,Ro w0 w p f M vt wb T m v n xs->Ro w0 w' p f M' vt wb T m v n xs)->w.heap.size<=w'.heap.size->K (i64 (s.ex.length:Nat)) w'):
  aI P0 158 [.pointer (some ⟨p,0,none⟩),.agg [i64 5,str l,.slice none 0 0,.slice none 0 0,i64 a].toArray] w K:=by
 have hub:ub [i64 5,str l,.slice none 0 0,.slice none 0 0,i64 a]=[]:=rfl;refine He (M0:=M) (wb:=w) (e:=⟨5,l,[],[],a⟩) h (Eff.refl _ _ _ _) ⟨.slice none 0 0,.slice none 0 0,rfl,⟨by simp[ints],.inl ⟨rfl,rfl⟩⟩,⟨by simp[strs],.inl ⟨rfl,rfl⟩⟩⟩ (by rw[hub];intro k hk;cases hk) (by rw[hub];exact List.nodup_nil) (by rw[hub];intro k hk;cases hk) hlen λM' w' h' he' hl'=>?_;exact hK M' w' h' (he.trans he') (λb T cs hL=>hl' b T cs hL (by rw[hub];exact dH)) (λwb T m v n xs hR=>hR.eff he') he'.chg.size
theorem Rp{E:PS->R Nat}{dl:Nat}{t:Tok}(hS:vQ w0 f)(hE:∀d,dl=d+1->EC w0 f 118 E d)(hF:pZ E)(h:PR w0 w p f M vt s top)(hg:Gd N s dl)(hx:Ar t.t)(hl:t.t.length<=100000)
  (ha:0<=t.a/\t.a<=N)(hte:EM N t.a t.t)(hphi:Syn.phi s+wt {t with k:=3}<=100000)
  (hK:∀x s',qT E s t=.ok x s'->∀M' w',PR w0 w' p f M' vt s' top->Eff p f M M' w w'->K (i64 (x:Nat)) w')(ht:∀c a',qT E s t=.err c a'->Thr w0 f c a'):
  aI P0 232 [.pointer (some ⟨p,0,none⟩),.agg (eK t).toArray] w K:=by
 refine PL ?_;unfold Vg;have hN:=hg.hN;refine sZ rfl λb2 w1 hb2 hz1 hbb1 hx1=>?_;have h1:=h.ext hx1;have L1:=h.loc hz1 hb2 hbb1;refine iS (z:=eK t) λb3 w2 hb3 hz2 hbb2 hx2=>?_;have h2:=h1.ext hx2;have L12:=L1.ext hx2;have L2:=h1.loc hz2 hb3 hbb2;have he2:Eff p f M M w w2:=(Eff.ext hx1).x hx2;refine L2.ldf rfl ?_;refine vD (by omega) ?_;rw[bK];unfold qT at hK ht;cases hi:Syn.insP t.t with
 |none=>
  have ei:Ev t.t=[i64 (-1),i64 0]:=by unfold Ev;rw[hi]
  rw[ei];refine⟨i64 (-1),rfl,?_⟩;rw[bK];refine⟨i64 0,rfl,?_⟩;rw[eL,aN];refine⟨λ_=>?_,λe=>by omega⟩;rw[hi]at hK ht;simp only[Option.isSome_none,uJ,Cv]at hK ht;refine L12.drew.ld rfl ?_;refine L2.drew.ldf rfl ?_;rw[bH,bO,aQ];refine L2.drew.ld rfl ?_;refine GR ((DK hx).1 hi) (by omega) λw3 hx3=>?_;have L3:=L2.drew.ext hx3;have L13:=L12.drew.ext hx3;refine⟨L3.ld rfl rfl,L13.ld rfl rfl,?_⟩;simp only[dJ,eA,dQ,aA,aC,aR,aV,Nat.reduceAdd,Nat.reduceLT,dB,aY];have h3:=h2.drew.ext hx3;refine Fx h3 ((he2.x (bM w2)).x hx3) (by have:=hg.ex;omega) λM' w4 h4 he4 _ _ _=>?_;exact hK _ _ rfl M' w4 h4 he4
 |some ie=>
  have ei:Ev t.t=[i64 (ie.1:Nat),i64 (ie.2:Nat)]:=by unfold Ev;rw[hi]
  rw[ei];refine⟨i64 (ie.1:Nat),rfl,?_⟩;rw[bK];refine⟨i64 (ie.2:Nat),rfl,?_⟩;rw[eL,aN];refine⟨λe=>by omega,λ_=>?_⟩;rw[hi]at hK ht;simp only[Option.isSome_some,gY]at hK ht;have hte:t.a+t.t.length+2<=N:=hte.resolve_left λe=>by rw[e]at hi;cases hi
  have hwt:wt {t with k:=3}=t.t.length+2:=by unfold wt;rw[aD (by simp),aF ⟨rfl,by rw[hi];rfl⟩]
  rw[hwt]at hphi;refine L2.ldf rfl ?_;simp only[dJ,eA,dQ,aA,aC,aR,aV,Nat.reduceAdd,Nat.reduceLT,dB,aY];refine bN λb7 w3 hb7 hz3 hbb3 hx3=>?_;have h3:=h2.ext hx3;have L3:=h2.loc hz3 hb7 hbb3;refine cL (l:=[i64 6,str [],.slice none 0 0,.slice none 0 0,i64 t.a]) hbb3 rfl rfl rfl λw4 hz4 hbb4 hc4=>?_;have L4:Loc w0 w4 p f M vt b7 ExT [i64 6,str [],.slice none 0 0,.slice none 0 0,i64 t.a]:=⟨hbb4,L3.2.up (by omega)⟩;have h4:=h3.one hc4 L3.2;have L14:=(L12.ext hx3).one hc4 (by omega);have L24:=(L2.ext hx3).one hc4 (by omega);have he4:Eff p f M M w w4:=(he2.x hx3).one hc4 (by omega);refine cK.cut (λst w'=>∃b8 b9 B1,st=[.pointer (some ⟨b8,0,none⟩),.pointer (some ⟨b9,0,none⟩)]/\TL w0 w' p f M vt B1 b2 b7 b8 b9 t.a t.t (t.a+1) (.slice none 0 0) (.slice none 0 0) [] []/\PR w0 w' p f M vt s top/\Eff p f M M w w'/\w.heap.size<=B1/\w.heap.size<=b8/\w.heap.size<=b9) ?_ ?_
  ·have L4d:=L4.drew;have L14d:=L14.drew;have L24d:=L24.drew;have h4d:=h4.drew;have he4d:=he4.x (bM w4);have ld1:∀{w':World},Loc w0 w' p f M vt b3 TkT (eK t)->ldW false 1 (.pointer (some ⟨b3,1,none⟩)) w' λx=>x=str t.t:=λL=>L.ld rfl rfl;have ld2:∀{w':World},Loc w0 w' p f M vt b3 TkT (eK t)->ldW false 1 (.pointer (some ⟨b3,2,none⟩)) w' λx=>x=i64 t.a:=λL=>L.ld rfl rfl;rw[bH,bO,aQ];refine L24d.ld rfl ?_;rw[bH,bO,aQ];refine L24d.ld rfl ?_;rw[bU,dF (by omega) (by omega)];have zd:w4.drew.heap.size=w4.heap.size:=rfl;have fin:∀{w5:World} {b8 b9:Nat},PR w0 w5 p f M vt s top->Eff p f M M w w5->Loc w0 w5 p f M vt b2 PpT [.pointer (some ⟨p,0,none⟩)]->Loc w0 w5 p f M vt b7 ExT [i64 6,str [],.slice none 0 0,.slice none 0 0,i64 t.a]->Loc w0 w5 p f M vt b8 StT [str t.t]->Loc w0 w5 p f M vt b9 gS [i64 (t.a+1)]->w4.heap.size<=b8->w4.heap.size<=b9->b8≠b9->
     ∃b8' b9' B1,[Value.pointer (some ⟨b8,0,none⟩),.pointer (some ⟨b9,0,none⟩)]=[.pointer (some ⟨b8',0,none⟩),.pointer (some ⟨b9',0,none⟩)]/\TL w0 w5 p f M vt B1 b2 b7 b8' b9' t.a t.t (t.a+1) (.slice none 0 0) (.slice none 0 0) [] []/\PR w0 w5 p f M vt s top/\Eff p f M M w w5/\w.heap.size<=B1/\w.heap.size<=b8'/\w.heap.size<=b9':=λ{w5 b8 b9} hp he l2 l7 l8 l9 g8 g9 gn=>
    ⟨b8,b9,w5.heap.size,rfl,⟨l2,l7,l8,l9,Ro.nil _ _,Ro.nil _ _,λk hk=>by simp[Value.ownBlock]at hk,⟨l2.lt,l7.lt,l8.lt,l9.lt,aL _⟩,⟨by omega,by omega,by omega,by omega,by omega,gn⟩⟩,hp,he,he.chg.size,by omega,by omega⟩
   refine⟨?_,?_⟩
   ·refine bN λb8 w5 hb8 hz5 hbb5 hx5=>?_;have L8:=h4d.loc hz5 hb8 hbb5;have h5:=h4d.ext hx5;have T5:=L24d.ext hx5;refine⟨ld2 T5,ld1 T5,?_⟩;refine bN λb9 w6 hb9 hz6 hbb6 hx6=>?_;have L9:=h5.loc hz6 hb9 hbb6;have h6:=h5.ext hx6;have T6:=T5.ext hx6;refine⟨ld2 T6,ld1 T6,?_⟩;refine(L8.ext hx6).st rfl (by simp) λw7 L87 hc7 hz7=>?_;have h7:=h6.one hc7 (L8.ext hx6).2;have T7:=T6.one hc7 (by omega);refine⟨ld2 T7,?_⟩;refine(L9.one hc7 (by omega)).st rfl (by simp) λw8 L98 hc8 hz8=>?_;have h8:=h7.one hc8 (L9.one hc7 (by omega)).2;exact fin h8 ((((he4d.x hx5).x hx6).one hc7 (by omega)).one hc8 (by omega)) ((((L14d.ext hx5).ext hx6).one hc7 (by omega)).one hc8 (by omega)) ((((L4d.ext hx5).ext hx6).one hc7 (by omega)).one hc8 (by omega)) (L87.one hc8 (by omega)) L98 (by omega) (by omega) (by omega)
   ·refine bN λb9 w5 hb9 hz5 hbb5 hx5=>?_;have L9:=h4d.loc hz5 hb9 hbb5;have h5:=h4d.ext hx5;have T5:=L24d.ext hx5;refine⟨ld2 T5,ld1 T5,?_⟩;refine bN λb8 w6 hb8 hz6 hbb6 hx6=>?_;have L8:=h5.loc hz6 hb8 hbb6;have h6:=h5.ext hx6;have T6:=T5.ext hx6;refine⟨ld2 T6,ld1 T6,?_⟩;refine L8.st rfl (by simp) λw7 L87 hc7 hz7=>?_;have h7:=h6.one hc7 L8.2;have T7:=T6.one hc7 (by omega);refine⟨ld2 T7,?_⟩;refine((L9.ext hx6).one hc7 (by omega)).st rfl (by simp) λw8 L98 hc8 hz8=>?_;have h8:=h7.one hc8 ((L9.ext hx6).one hc7 (by omega)).2;exact fin h8 ((((he4d.x hx5).x hx6).one hc7 (by omega)).one hc8 (by omega)) ((((L14d.ext hx5).ext hx6).one hc7 (by omega)).one hc8 (by omega)) ((((L4d.ext hx5).ext hx6).one hc7 (by omega)).one hc8 (by omega)) (L87.one hc8 (by omega)) L98 (by omega) (by omega) (by omega)
  rintro st g w5 ⟨b8,b9,B1,rfl,T5,h5,he5,hB1,hB8,hB9⟩;simp only[aE,dX];clear L1 L12 L2 L3 L4 L14 L24;have hz5:=he5.chg.size;generalize hR:gT E (t.t.length+1) s t.t (t.a+1) [] []=R0 at hK ht;refine dD.go (λst w'=>st=[]/\∃s1 M1 rest a va vk av ks n,PR w0 w' p f M1 vt s1 top/\Gd N s1 dl/\Eff p f M M1 w w'/\TL w0 w' p f M1 vt B1 b2 b7 b8 b9 t.a rest a va vk av ks/\gT E n s1 rest a av ks=R0/\rest.length<n/\Ar rest/\0<=a/\a+rest.length+1<=N/\Syn.phi s1+rest.length+1<=100000/\av.length+2*rest.length<=2*t.t.length/\ks.length=av.length)
   (λ_ w'=>KC w' b8) ⟨rfl,s,M,t.t,t.a+1,_,_,[],[],t.t.length+1,h5,hg,he5,T5,hR,by omega,hx,by omega,by omega,by omega,by simp,rfl⟩ ?_
  rintro st g2 w6 ⟨rfl,s1,M1,rest,a,va,vk,av,ks,n,h6,hg1,he6,T6,hpf,hn,hxr,ha0,haN,hph,hav,hks⟩;have hw6:=he6.chg.size;refine T6.l8.ld rfl ?_;rw[pM,aN];refine⟨λhne=>?_,λhne=>?_⟩
  ·obtain⟨n,rfl⟩:∃m,n=m+1:=⟨n-1,by omega⟩;rw[FG hne hn]at hpf;obtain⟨i1,i2,i3,i4,i5,i6,i7⟩:=OP hxr;have i6:=i6 hne;refine T6.l8.ld rfl ?_;refine vD (by omega) ?_;have hlen:rest.length<=100000:=by omega
   have two:∃u v:Int,Ev rest=[i64 u,i64 v]/\((Syn.insP rest=none/\u=-1)\/(Syn.insP rest≠none/\u=((kR rest).1:Nat)/\v=((kR rest).2:Nat))):=by
    unfold kR Ev;cases hr:Syn.insP rest with
    |none=>exact⟨-1,0,rfl,.inl ⟨rfl,rfl⟩⟩
    |some x=>exact⟨_,_,rfl,.inr ⟨by simp,rfl,rfl⟩⟩
   obtain⟨u,v,euv,huv⟩:=two;rw[euv,bK];refine⟨i64 u,rfl,?_⟩;rw[bK];refine⟨i64 v,rfl,?_⟩;refine bN λb10 w7 hb10 hz7 hbb7 hx7=>?_;have h7:=h6.ext hx7;have T7:=T6.ext hx7;have l10:=h6.loc hz7 hb10 hbb7;refine bN λb11 w8 hb11 hz8 hbb8 hx8=>?_;have h8:=h7.ext hx8;have T8:=T7.ext hx8;have l11:=h7.loc hz8 hb11 hbb8;have hB6:=T6.lt.2.2.2.2;have nA10:∀k,va.ownBlock=some k->k<w6.heap.size:=λk hk=>(T6.rA.off k hk).1.2;have nK10:∀k,vk.ownBlock=some k->k<w6.heap.size:=λk hk=>(T6.rK.off k hk).1.2;have no10:va.ownBlock≠some b10/\vk.ownBlock≠some b10:=⟨λe=>by have:=nA10 _ e;omega,λe=>by have:=nK10 _ e;omega⟩;have no11:va.ownBlock≠some b11/\vk.ownBlock≠some b11:=⟨λe=>by have:=nA10 _ e;omega,λe=>by have:=nK10 _ e;omega⟩;refine(l10.ext hx8).st rfl (by simp) λw9 l10 hc9 hz9=>?_;have h9:=h8.one hc9 l10.2;have T9:=T8.one hc9 (by omega) no10.1 no10.2;refine(l11.one hc9 (by omega)).st rfl (by simp) λw10 l11 hc10 hz10=>?_;have l10:=l10.one hc10 (by omega);have h10:=h9.one hc10 l11.2;have T10:=T9.one hc10 (by omega) no11.1 no11.2;have he10:Eff p f M M1 w w10:=(((he6.x hx7).x hx8).one hc9 (by omega)).one hc10 (by omega);simp only[aR]at l10 l11;refine cK.cut (λ_ w'=>Loc w0 w' p f M1 vt b10 gS [i64 ((kR rest).1:Nat)]/\Loc w0 w' p f M1 vt b11 gS [i64 ((kR rest).2:Nat)]/\PR w0 w' p f M1 vt s1 top/\TL w0 w' p f M1 vt B1 b2 b7 b8 b9 t.a rest a va vk av ks/\Eff p f M M1 w w'/\w10.heap.size<=w'.heap.size) ?_ ?_
   ·refine l10.ld rfl ?_;rw[eL,aN];refine⟨λhlt=>?_,λhge=>?_⟩
    ·have hnone:Syn.insP rest=none:=by
      rcases huv with h|h
      ·exact h.1
      ·omega
     have eI:kR rest=(rest.length,rest.length):=by unfold kR;rw[hnone]
     have T11:=T10.ext (bM w10);refine T11.l8.ld rfl ?_;rw[eQ];refine T11.l8.ld rfl ?_;rw[eQ];refine l10.drew.st rfl (by simp) λw12 l10 hc12 hz12=>?_;have h12:=h10.drew.one hc12 l10.2;have T12:=T11.one hc12 (by omega) no10.1 no10.2;refine⟨T12.l8.ld rfl rfl,?_⟩;have zd:w10.drew.heap.size=w10.heap.size:=rfl;refine(l11.drew.one hc12 (by omega)).st rfl (by simp) λw13 l11 hc13 hz13=>?_;have h13:=h12.one hc13 l11.2;have T13:=T12.one hc13 (by omega) no11.1 no11.2;have l10:=l10.one hc13 (by omega);simp only[aR]at l10 l11;rw[eI];exact⟨l10,l11,h13,T13,((he10.x (bM _)).one hc12 (by omega)).one hc13 (by omega),by omega⟩
    ·rcases huv with h|⟨_,e1,e2⟩
     ·omega
     ·rw[e1]at l10;rw[e2]at l11;exact⟨l10,l11,h10,T10,he10,aL _⟩
   rintro _ g3 w14 ⟨l10,l11,h14,T14,he14,hz14⟩;clear hc9 hc10 h7 h8 h9 h10 T7 T8 T9 T10 he10;generalize hI:(kR rest).1=I at*
   generalize hE':(kR rest).2=E' at*
   have hw14:=he14.chg.size;refine cK.cut (λ_ w'=>∃M2 va2 vk2,PR w0 w' p f M2 vt (tO s1 rest a) top/\Eff p f M M2 w w'/\TL w0 w' p f M2 vt B1 b2 b7 b8 b9 t.a rest a va2 vk2 (if 0<I then av++[s1.ex.length]else av) (if 0<I then ks++[[116]]else ks)/\Loc w0 w' p f M2 vt b10 gS [i64 (I:Nat)]/\Loc w0 w' p f M2 vt b11 gS [i64 (E':Nat)]/\(va2.ownBlock≠some b10/\vk2.ownBlock≠some b10)/\(va2.ownBlock≠some b11/\vk2.ownBlock≠some b11)) ?_ ?_
   ·refine l10.ld rfl ?_;rw[mU,aN];unfold tO;rw[hI];refine⟨λhpos=>?_,λhpos=>?_⟩
    ·have hpos:0<I:=by omega
     simp only[aF hpos];have T15:=T14.ext (bM w14);have h15:=h14.drew;have l10:=l10.drew;have l11:=l11.drew;rw[bH,bO,aQ];refine T15.l7.ld rfl ?_;refine T15.l2.ld rfl ?_;refine T15.l8.ld rfl ?_;refine l10.ld rfl ?_;rw[fC,eM];refine⟨by omega,by omega,?_⟩;rw[fR,bJ,aP];refine T15.l9.ld rfl ?_;refine GR i3 (by rw[cG];omega) λw16 hx16=>?_;have T16:=T15.ext hx16;have h16:=h15.ext hx16;have l10:=l10.ext hx16;have l11:=l11.ext hx16;refine⟨T16.l9.ld rfl rfl,T16.l2.ld rfl rfl,T16.l7.ld rfl rfl,?_⟩;simp only[dJ,eA,dQ,aA,aC,aR,aV,Nat.reduceAdd,Nat.reduceLT,dB,aY];have he16:=(he14.x (bM w14)).x hx16;refine Fx h16 he16 (by have:=hg1.ex;omega) λM2 w17 h17 he17 hl17 hr17 hz17=>?_;have T17:TL w0 w17 p f M2 vt B1 b2 b7 b8 b9 t.a rest a va vk av ks:=⟨hl17 _ _ _ T16.l2,hl17 _ _ _ T16.l7,hl17 _ _ _ T16.l8,hl17 _ _ _ T16.l9,hr17 _ _ _ _ _ _ T16.rA,hr17 _ _ _ _ _ _ T16.rK,T16.dd,⟨T16.lt.1,T16.lt.2.1,T16.lt.2.2.1,T16.lt.2.2.2.1,bZ T16.lt.2.2.2.2 hz17⟩,T16.ne⟩;have l10:=hl17 _ _ _ l10;have l11:=hl17 _ _ _ l11;refine⟨T17.l7.ld rfl rfl,?_⟩;refine jC λr w18 hr hz18 hrb hx18=>?_;have T18:=T17.ext hx18;refine⟨T18.l7.ld rfl rfl,?_⟩;refine T18.appA (h17.ext hx18) hrb (by omega) λva2 w19 T19 h19 hc19 hv19=>?_;have n7:=T18.lt.2.1;have l10':Loc w0 w19 p f M2 vt b10 gS [i64 (I:Nat)]:=⟨hc19.at (l10.ext hx18).1 λe=>e.elim no10.1 (by omega),(l10.ext hx18).2.up hc19.size⟩;have l11':Loc w0 w19 p f M2 vt b11 gS [i64 (E':Nat)]:=⟨hc19.at (l11.ext hx18).1 λe=>e.elim no11.1 (by omega),(l11.ext hx18).2.up hc19.size⟩;have a10:va2.ownBlock≠some b10:=λe=>(hv19 _ e).elim no10.1 λe=>by have:=(l10.ext hx18).lt;omega
     have a11:va2.ownBlock≠some b11:=λe=>(hv19 _ e).elim no11.1 λe=>by have:=(l11.ext hx18).lt;omega
     have hw16:=he16.chg.size;have he19:Eff p f M M2 w w19:=(he17.x hx18).then hc19 λk hk e=>by
      rcases e with e|e
      ·have:=T6.rA.new k e;omega
      ·omega
     rw[bH,bO,aQ];refine T19.l7.ld rfl ?_;refine sA λr2 w20 hr2 hz20 hrb2 hx20=>?_;have T20:=T19.ext hx20;refine T20.appK (h19.ext hx20) hrb2 (by omega) λvk2 w21 T21 h21 hc21 hv21=>?_;have hw19:=he19.chg.size;refine⟨M2,va2,vk2,h21,(he19.x hx20).then hc21 λk hk e=>?_,T21,⟨hc21.at (l10'.ext hx20).1 λe=>e.elim no10.2 (by omega),(l10'.ext hx20).2.up hc21.size⟩,⟨hc21.at (l11'.ext hx20).1 λe=>e.elim no11.2 (by omega),(l11'.ext hx20).2.up hc21.size⟩,
      ⟨a10,λe=>(hv21 _ e).elim no10.2 λe=>by have:=(l10'.ext hx20).lt;omega⟩,⟨a11,λe=>(hv21 _ e).elim no11.2 λe=>by have:=(l11'.ext hx20).lt;omega⟩⟩
     rcases e with e|e
     ·have:=T6.rK.new k e;omega
     ·omega
    ·simp only[aD (show¬0<I by omega)];exact⟨M1,va,vk,h14,he14,T14,l10,l11,no10,no11⟩
   rintro _ g4 w15 ⟨M2,va2,vk2,h15,he15,T15,l10,l11,no10,no11⟩;have hg2:Gd N (tO s1 rest a) dl/\Syn.phi (tO s1 rest a)<=Syn.phi s1+I:=by
    unfold tO;rw[hI];split
    ·have hp:=jZ s1 ⟨5,dT (rest.take I),[],[],a⟩;have hp:Syn.phi {s1 with ex:=s1.ex++[⟨5,dT (rest.take I),[],[],a⟩]}<=Syn.phi s1+1:=hp;exact⟨hg1.put (by omega),by omega⟩
    ·exact⟨hg1,by omega⟩
   obtain⟨hg2,hp2⟩:=hg2;have hav2:(if 0<I then av++[s1.ex.length]else av).length<=av.length+(if 0<I then 1 else 0):=by split<;>simp
   have hks2:(if 0<I then ks++[[116]]else ks).length=(if 0<I then av++[s1.ex.length]else av).length:=by split<;>simp[hks]
   generalize (if 0<I then av++[s1.ex.length]else av)=av2 at*
   generalize (if 0<I then ks++[[116]]else ks)=ks2 at*
   generalize tO s1 rest a=s2 at*
   have hw15:=he15.chg.size;refine cK.cut (λ_ w'=>∃s3 M3 va3 vk3 av3 ks3,PR w0 w' p f M3 vt s3 top/\Gd N s3 dl/\Eff p f M M3 w w'/\TL w0 w' p f M3 vt B1 b2 b7 b8 b9 t.a rest a va3 vk3 av3 ks3/\Loc w0 w' p f M3 vt b11 gS [i64 (E':Nat)]/\gT E n s3 (rest.drop E') (a+E') av3 ks3=R0/\Syn.phi s3+(rest.length-E')+1<=100000/\av3.length+2*(rest.length-E')<=2*t.t.length/\ks3.length=av3.length) ?_ ?_
   ·refine l10.ld rfl ?_;refine l11.ld rfl ?_;rw[eL,aN];refine⟨λhlt=>?_,λhge=>?_⟩
    ·have hlt:I<E':=by omega
     have i5:=i5 hlt;rw[aF hlt]at hpf;refine T15.l2.ld rfl ?_;refine T15.l9.ld rfl ?_;refine l10.ld rfl ?_;rw[bU,dF (by omega) (by omega)];have hlev:=hg2.lev;have hsat:=λ(d:Nat) (hd:dl=d+1)=>Dk (hF.ok N) (s:={s2 with deep:=s2.deep+1,quiet:=false}) (uN hg2.ws _ _) (t:=(rest.drop (I+2)).take (E'-1-(I+2))) (a:=a+I+2) (by omega) (by rw[cG,aJ];omega);refine nM h15 (by omega) (λhd=>ht 7 (a+I) ?_) λhd w16 h16 he16=>?_
     ·rw[<-hpf];unfold within;rw[aF hd];rfl
     obtain⟨d,rfl⟩:∃d,dl=d+1:=⟨dl-1,by omega⟩;have hgi:=hg2.frame false;have hwin:within s2 (a+I) false (λq=>jU E q ((rest.drop (I+2)).take (E'-1-(I+2))) (a+I+2))=(jU E {s2 with deep:=s2.deep+1,quiet:=false} ((rest.drop (I+2)).take (E'-1-(I+2))) (a+I+2)).bind λx s'=>.ok x {s' with deep:=s2.deep,quiet:=s2.quiet}:=by
      unfold within;rw[aD hd]
     rw[hwin]at hpf;refine jV (caps:=[.pointer (some ⟨b7,0,none⟩),.pointer (some ⟨b2,0,none⟩),.pointer (some ⟨b8,0,none⟩),.pointer (some ⟨b10,0,none⟩),.pointer (some ⟨b11,0,none⟩),.pointer (some ⟨b9,0,none⟩)]) ?_;have n7:=T15.lt.2.1;have hphi':Syn.phi {s2 with deep:=s2.deep+1,quiet:=false}=Syn.phi s2:=rfl;refine Rk (he15.trans he16) (by omega) hB1 hS (hE d rfl) hF h16 hgi (T15.eff he16) (l10.eff he16) (l11.eff he16) ⟨no10.1,no10.2,by omega⟩ ⟨no11.1,no11.2,by omega⟩ i5 i2 ha0 haN (by show Syn.phi s2+_<=_;omega) (by split at hav2<;>omega) (λx s' hx' M3 va3 w17 h17 he17 T17 k10 k11 hno=>?_) λc a' hx'=>ht c a' ?_
     ·rw[hx']at hpf;simp only[R.bind]at hpf;have hs1:=hsat d rfl;have hs2:=CV hF.z {s2 with deep:=s2.deep+1,quiet:=false} ((rest.drop (I+2)).take (E'-1-(I+2))) (a+I+2);rw[hx']at hs1 hs2;have hs2:Syn.phi s'<=Syn.phi s2+((rest.drop (I+2)).take (E'-1-(I+2))).length:=hs2;rw[cG,aJ]at hs2;have hgs':Gd N s' d:=⟨hs1.1.ws hgi.ws,hN,by rw[hs1.1.toks];exact hgi.few,by rw[hs1.1.toks];exact hgi.ts,by omega,by rw[hs1.1.deep];exact hgi.lev⟩;refine⟨M3,s',h17,hs1.1.deep,λw18 h18 he18=>?_⟩;have T18:=T17.eff he18;rw[bH,bO,aQ];refine T18.l7.ld rfl ?_;refine sA λr2 w20 hr2 hz20 hrb2 hx20=>?_;have T20:=T18.ext hx20;have k11:=(k11.eff he18).ext hx20;refine T20.appK (h18.ext hx20) hrb2 (by split at hav2<;>omega) λvk3 w21 T21 h21 hc21 hv21=>?_;refine⟨_,M3,va3,vk3,av2++[x],ks2++[[101]],h21,hg2.back hgs',((he17.trans he18).x hx20).then hc21 λk hk e=>?_,T21,⟨hc21.at k11.1 λe=>e.elim no11.2 (by omega),k11.2.up hc21.size⟩,hpf,?_,?_,by simp[hks2]⟩
      ·rcases e with e|e
       ·have:=T17.rK.new k e;omega
       ·omega
      ·show Syn.phi s'+_+1<=_;omega
      ·simp only[aB,aA,aC];split at hav2<;>omega
     ·rw[hx']at hpf;rw[<-hpf];rfl
    ·have hge:¬I<E':=by omega
     rw[aD hge]at hpf;refine⟨s2,M2,va2,vk2,av2,ks2,h15,hg2,he15,T15,l11,hpf,by omega,?_,hks2⟩;split at hav2<;>omega
   rintro _ g5 w22 ⟨s3,M3,va3,vk3,av3,ks3,h22,hg3,he22,T22,l11,hpf3,hp3,hav3,hks3⟩;have T23:=T22.ext (bM w22);have l11:=l11.drew;have h23:=h22.drew;have hw22:=he22.chg.size;refine T23.l8.ld rfl ?_;refine l11.ld rfl ?_;rw[fC,fR,eM];refine⟨by omega,by omega,?_⟩;rw[bP,aP];refine T23.l9.ld rfl ?_;refine l11.ld rfl ?_;rw[bU,dF (by omega) (by omega)];obtain⟨q1,q2,q3,q4,q5⟩:=T23.lt;obtain⟨m1,m2,m3,m4,m5,m6⟩:=T23.ne;refine T23.l8.st rfl (by simp) λw24 l8 hc24 hz24=>?_;have h24:=h23.one hc24 l8.2;have l9:=T23.l9.one hc24 (uH m6);have l11:=l11.one hc24 (by omega);refine⟨l11.ld rfl rfl,l9.ld rfl rfl,?_⟩;refine l9.st rfl (by simp) λw25 l9 hc25 hz25=>?_;have h25:=h24.one hc25 l9.2;have l8:=l8.one hc25 m6;simp only[aR]at l8 l9;have T25:TL w0 w25 p f M3 vt B1 b2 b7 b8 b9 t.a (rest.drop E') (a+E') va3 vk3 av3 ks3:=
    ⟨(T23.l2.one hc24 m2).one hc25 m3,(T23.l7.one hc24 m4).one hc25 m5,l8,l9,(T23.rA.one hc24 (T23.noA q3).1).one hc25 (T23.noA q4).1,(T23.rK.one hc24 (T23.noA q3).2).one hc25 (T23.noA q4).2,T23.dd,⟨q1,q2,q3,q4,by omega⟩,T23.ne⟩
   have zd:w22.drew.heap.size=w22.heap.size:=rfl;refine⟨⟨rfl,s3,M3,rest.drop E',a+E',va3,vk3,av3,ks3,n,h25,hg3,((he22.x (bM _)).one hc24 (by omega)).one hc25 (by omega),T25,hpf3,?_,i4,by omega,?_,?_,?_,hks3⟩,?_⟩
   ·rw[aJ];omega
   ·rw[aJ];omega
   ·rw[aJ];exact hp3
   ·rw[aJ];exact hav3
   ·rw[T25.l8.strat,T6.l8.strat,aJ];omega
  ·have hnil:rest=[]:=by
    by_cases h:rest=[]
    ·exact h
    ·exact absurd h hne
   subst hnil;obtain⟨n,rfl⟩:∃m,n=m+1:=⟨n-1,by omega⟩;simp only[gT,gY]at hpf;rw[<-hpf]at hK ht;refine T6.l2.ld rfl ?_;refine fY T6.l7.1 rfl ?_;have hub:∀k,k∈ub [i64 6,str [],va,vk,i64 t.a]↔va.ownBlock=some k\/vk.ownBlock=some k:=λk=>by
    rw[show [i64 6,str [],va,vk,i64 t.a]=[i64 6,str []]++([va]++([vk]++[i64 t.a]))from rfl];simp only[sC,bQ,fX];simp[ub,Value.ownBlock]
   have hnd:(ub [i64 6,str [],va,vk,i64 t.a]).Nodup:=by
    rw[show [i64 6,str [],va,vk,i64 t.a]=[i64 6,str []]++([va]++([vk]++[i64 t.a]))from rfl];simp only[sC];rw[show ub [i64 6,str []]=[]from rfl,show ub [i64 t.a]=[]from rfl,cI,cH];exact fL.2 ⟨lK _,lK _,λx hx y hy e=>by subst e;exact T6.dd x (fX.1 hx) (fX.1 hy)⟩
   refine He (e:=⟨6,[],av,ks,t.a⟩) h6 he6 ⟨va,vk,rfl,T6.rA.own,T6.rK.own⟩ (λk hk=>((hub k).1 hk).elim (T6.rA.off k) (T6.rK.off k)) hnd (λk hk=>?_) (by have:=hg1.ex;omega) λM' w7 h7 he7 _=>?_
   ·rcases(hub k).1 hk with e|e
    ·have:=T6.rA.new k e;omega
    ·have:=T6.rK.new k e;omega
   ·exact hK _ _ rfl M' w7 h7 he7
end
section
variable [HX]
structure ER(w0 w:World)(p f:Nat)(M:Lay)(vt:Value)(wb:Nat)(e:Ex)(va vk:Value):Prop where
 rA:Ro w0 w p f M vt wb gS 1 va e.args.length (ints e.args)
 rK:Ro w0 w p f M vt wb StT 1 vk e.keys.length (strs e.keys)
 dd:∀k,va.ownBlock=some k->vk.ownBlock≠some k
def exc(e:Ex)(va vk:Value):List Value:=[i64 e.k,str e.t,va,vk,i64 e.a]
section
variable{w0 w w' w1:World}{p f b:Nat}{M M' M0:Lay}{vt:Value}{s:PS}{top:List Nat}{N:Int}{K:Q0}{e:Ex}{va vk:Value}{wbn:Nat}{wb:World}{dl:Nat}
theorem IH(h:ER w0 w p f M vt wbn e va vk):(exc e va vk).all nK=true:=by
 obtain⟨_,_,e1,_⟩:=h.rA.own.sl.shape;obtain⟨_,_,e2,_⟩:=h.rK.own.sl.shape;subst e1 e2;rfl
theorem ER.eff(h:ER w0 w p f M vt wbn e va vk)(he:Eff p f M M' w w'):ER w0 w' p f M' vt wbn e va vk:=⟨h.rA.eff he,h.rK.eff he,h.dd⟩
theorem ER.one(h:ER w0 w p f M vt wbn e va vk)(hc:Chg (One b) w w')(hA:va.ownBlock≠some b)(hK:vk.ownBlock≠some b):ER w0 w' p f M vt wbn e va vk:=⟨h.rA.one hc hA,h.rK.one hc hK,h.dd⟩
theorem Ro.le{m:Nat}{xs:List Value}{k:Nat}(h:Ro w0 w p f M vt wbn T m v n xs)(hk:k<=wbn):Ro w0 w p f M vt k T m v n xs:=⟨h.own,h.off,λj hj=>bZ hk (h.new j hj)⟩
theorem ER.le{k:Nat}(h:ER w0 w p f M vt wbn e va vk)(hk:k<=wbn):ER w0 w p f M vt k e va vk:=⟨h.rA.le hk,h.rK.le hk,h.dd⟩
theorem ER.noK(hk:e.keys=[])(h:Ro w0 w p f M vt wbn gS 1 va e.args.length (ints e.args)):ER w0 w p f M vt wbn e va (.slice none 0 0):=⟨h,by rw[hk];exact Ro.nil _ _,λk _=>by simp[Value.ownBlock]⟩
theorem ER.leaf(h1:e.args=[])(h2:e.keys=[]):ER w0 w p f M vt wbn e (.slice none 0 0) (.slice none 0 0):=⟨by rw[h1];exact Ro.nil _ _,by rw[h2];exact Ro.nil _ _,λk hk=>by simp[Value.ownBlock]at hk⟩
theorem Kr(e:Ex)(va vk:Value):ub (exc e va vk)=ub [va]++ub [vk]:=by
 rw[show exc e va vk=[i64 e.k,str e.t]++([va]++([vk]++[i64 e.a]))from rfl];simp only[sC];rw[show ub [i64 e.k,str e.t]=[]from rfl,show ub [i64 e.a]=[]from rfl,cI,cH]
theorem Fy(h:PR w0 w p f M vt s top)(he:Eff p f M0 M wb w)(hE:ER w0 w p f M vt wb.heap.size e va vk)(hg:Gd N s dl)
  (hK:∀M' w',PR w0 w' p f M' vt {s with ex:=s.ex++[e]} top->Eff p f M0 M' wb w'->(∀b T cs,Loc w0 w p f M vt b T cs->va.ownBlock≠some b->vk.ownBlock≠some b->Loc w0 w' p f M' vt b T cs)->K (i64 (s.ex.length:Nat)) w'):
  aI P0 158 [.pointer (some ⟨p,0,none⟩),.agg (exc e va vk).toArray] w K:=by
 have hub:∀k,k∈ub (exc e va vk)↔va.ownBlock=some k\/vk.ownBlock=some k:=λk=>by rw[Kr,bQ,fX,fX]
 have hnd:(ub (exc e va vk)).Nodup:=by
  rw[Kr];exact fL.2 ⟨lK _,lK _,λx hx y hy e=>by subst e;exact hE.dd x (fX.1 hx) (fX.1 hy)⟩
 refine He (e:=e) h he ⟨va,vk,rfl,hE.rA.own,hE.rK.own⟩ (λk hk=>((hub k).1 hk).elim (hE.rA.off k) (hE.rK.off k)) hnd (λk hk=>((hub k).1 hk).elim (hE.rA.new k) (hE.rK.new k)) (by have:=hg.ex;omega) λM' w' h' he' hl=>?_;exact hK M' w' h' he' λb T cs hL h1 h2=>hl b T cs hL λhm=>((hub b).1 hm).elim h1 h2
theorem MA{E:PS->R Nat}{x:Str}(hE:EC w0 f 118 E dl)(hF:pZ E)(h:PR w0 w p f M vt s top)(hg:Gd N s dl)
  (hK:∀l s',xF E x s=.ok l s'->∀M' v w',PR w0 w' p f M' vt s' top->Gd N s' dl->Eff p f M M' w w'->Ro w0 w' p f M' vt w.heap.size gS 1 v l.length (ints l)->K v w')(ht:∀c a',xF E x s=.err c a'->Thr w0 f c a'):
  aI P0 235 [.pointer (some ⟨p,0,none⟩),str x] w K:=by
 refine PH ?_;unfold Vd;unfold xF at hK ht;generalize hR:lQ E x (s.toks.length+1) s []=R0 at hK ht;have hN:=hg.hN;refine dD.go (λst w'=>∃v s1 M1 out n,st=[v]/\PR w0 w' p f M1 vt s1 top/\Gd N s1 dl/\Eff p f M M1 w w'/\Ro w0 w' p f M1 vt w.heap.size gS 1 v out.length (ints out)/\lQ E x n s1 out=R0/\s1.toks.length<n+s1.i/\out.length<=s1.i/\s1.toks.length=s.toks.length) (λ_ w'=>s.toks.length-xL w' p)
  ⟨_,s,M,[],s.toks.length+1,rfl,h,hg,Eff.refl _ _ _ _,Ro.nil _ _,hR,by omega,by simp,rfl⟩ ?_
 rintro st g w2 ⟨v,s1,M1,out,n,rfl,h2,hg2,he2,hr2,hF2,hn,ho,htl⟩;have hlt2:=hg2.ws.lt;obtain⟨n,rfl⟩:∃m,n=m+1:=⟨n-1,by omega⟩;simp only[aE];refine sD h2 hg2.ws hN hg2.l λw3 h3 he3=>?_;simp only[lQ]at hF2;have hg3:=hg2.take x;have tg:=iO hg2.ws x;have hr3:=hr2.eff he3;have he23:=he2.trans he3;have hw3:=he23.chg.size;have more:∀{s4:PS} {w4:World},PR w0 w4 p f M1 vt s4 top->Gd N s4 dl->Eff p f M M1 w w4->Ro w0 w4 p f M1 vt w.heap.size gS 1 v out.length (ints out)->((E s4).bind λx' s'=>lQ E x n s' (out++[x']))=R0->s1.i<=s4.i->s4.toks.length=s.toks.length->
   aI P0 118 [.pointer (some ⟨p,0,none⟩)] w4 λt20 w8=>fH gS 1 [(.int .i64 0)] [(0,1,t20)] w8 λt21 w9=>fG P0 (Builtin.append_ #[26,26] 26 #[v,t21]) w9 λt22 w10=>
    (∃v s1 M1 out n,[t22]=[v]/\PR w0 w10 p f M1 vt s1 top/\Gd N s1 dl/\Eff p f M M1 w w10/\Ro w0 w10 p f M1 vt w.heap.size gS 1 v out.length (ints out)/\lQ E x n s1 out=R0/\s1.toks.length<n+s1.i/\out.length<=s1.i/\s1.toks.length=s.toks.length)/\s.toks.length-xL w10 p<s.toks.length-xL w2 p:=λ{s4 w4} h4 hg4 he4 hr4 hF4 hi4 ht4=>by
  refine hE w4 p M1 vt s4 top N _ h4 hg4 (λy s5 e5 M5 w5 h5 he5=>?_) λc a' e5=>ht c a' (by rw[<-hF4,e5];rfl);rw[e5]at hF4;simp only[R.bind]at hF4;obtain⟨hg5,hi5⟩:=hg4.e hF e5;have htk:s5.toks.length=s4.toks.length:=by
   have:=hF.ok N s4 hg4.ws;rw[e5]at this;exact congrArg List.length this.1.1.toks
  refine jC λr w6 hr hz6 hrb hx6=>?_;have h6:=h5.ext hx6;have hr6:=(hr4.eff he5).ext hx6;have he46:=(he4.trans he5).x hx6;refine Ro.app Ak hr6 h6 hrb rfl (λu hu=>by simp only[aU]at hu;subst hu;rfl) (by have:=hg4.few;have:=hg4.ws.lt;omega) (by decide) he46.chg.size λv' w7 hR7 hc7 hv7 h7=>?_;have hlt5:=hg5.ws.lt;refine⟨⟨v',s5,M5,out++[y],n,rfl,h7,hg5,he46.then hc7 λk hk e=>by have:=hr6.new k e;omega,?_,hF4,by omega,by rw[aB,aA,aC];omega,by omega⟩,?_⟩
  ·rw[aB,aA,aC,BR];exact hR7
  ·rw[h7.at_,h2.at_];omega
 have ht3:(aW s1 x).2.toks.length=s.toks.length:=by rw[tg.1.toks];exact htl
 rw[iN,cU];refine⟨λhnt=>?_,λhyt=>?_⟩
 ·have hnt:(aW s1 x).1=false:=by simpa using hnt
  rw[aD (by rw[hnt];decide)]at hF2;by_cases hout:out=[]
  ·rw[aF hout]at hF2;refine cK.cut (λ_ w'=>w'=w3) ?_ ?_
   ·rw[fD hr3.own.sl,mU,aN];exact⟨λe=>by rw[hout]at e;simp at e,λ_=>rfl⟩
   rintro _ g2 w4 rfl;exact more h3 hg3 he23 hr3 hF2 tg.1.le ht3
  ·rw[aD hout]at hF2;have hpos:0<out.length:=gW.2 hout;refine cK.cut (λ_ w'=>∃s4,PR w0 w' p f M1 vt s4 top/\Gd N s4 dl/\Eff p f M M1 w w'/\Ro w0 w' p f M1 vt w.heap.size gS 1 v out.length (ints out)/\((E s4).bind λx' s'=>lQ E x n s' (out++[x']))=R0/\s1.i<=s4.i/\s4.toks.length=s.toks.length) ?_ ?_
   ·rw[fD hr3.own.sl,mU,aN];refine⟨λ_=>?_,λe=>absurd (by omega) e⟩;refine uP h3 hg3.ws hN hg3.l (λs4 e4 w4 h4 he4=>?_) λc a' e4=>ht c a' (by rw[<-hF2,e4];rfl);rw[e4]at hF2;simp only[R.bind]at hF2;obtain⟨hg4,hi4,_⟩:=hg3.want e4;have hto4:=jQ hg3.ws [44];rw[e4]at hto4;refine sD h4 hg4.ws hN hg4.l λw5 h5 he5=>?_;have hr5:=(hr3.eff he4).eff he5;have he25:=(he23.trans he4).trans he5;have tg5:=iO hg4.ws x;rw[cU];refine⟨λhy=>?_,λhy=>?_⟩
    ·rw[aF hy]at hF2;exact hK out _ hF2.symm M1 v w5 h5 (hg4.take x) he25 hr5
    ·rw[aD (by rw[hy];decide)]at hF2;exact⟨_,h5,hg4.take x,he25,hr5,hF2,by have:=tg.1.le;have:=tg5.1.le;omega,by rw[tg5.1.toks,hto4.1.1.toks];exact ht3⟩
   rintro _ g2 w4 ⟨s4,h4,hg4,he4,hr4,hF4,hi4,ht4⟩;exact more h4 hg4 he4 hr4 hF4 hi4 ht4
 ·have hyt:(aW s1 x).1=true:=by simpa using hyt
  rw[aF hyt]at hF2;exact hK out _ hF2.symm M1 v w3 h3 hg3 he23 hr3
end
end
section
variable [HX]
variable{w0 w w' w1:World}{p f b:Nat}{M M' M0:Lay}{vt:Value}{s:PS}{top:List Nat}{N:Int}{K:Q0}{e:Ex}{va vk:Value}{wbn:Nat}{wb:World}{dl:Nat}
theorem GV(hp:PR w0 w p f M vt s top)(hL:Loc w0 w p f M vt b ExT cs)(hc:cs.length=5)(hE:ER w0 w p f M vt wbn e va vk)(hA:va.ownBlock≠some b)(hK':vk.ownBlock≠some b)
  (hK:∀w',PR w0 w' p f M vt s top->Chg (One b) w w'->ER w0 w' p f M vt wbn e va vk->K (.agg (exc e va vk).toArray) w'):
  stW 5 (.pointer (some ⟨b,0,none⟩)) (.agg (exc e va vk).toArray) w λw5=>ldW true 5 (.pointer (some ⟨b,0,none⟩)) w5 λr6=>K r6 w5:=
 AT hL.1 rfl hc (IH hE) λw' hcw=>hK w' (hp.one hcw hL.2) hcw (hE.one hcw hA hK')
theorem IY{x r:Nat}{ty:TypeId}{k a:Int}{l:Str}{av:List Nat}{KW:World->Prop}(hL:Loc w0 w p f M vt b ExT [i64 k,str l,va,vk,i64 a])(hR:Ro w0 w p f M vt wbn gS 1 va av.length (ints av))(hp:PR w0 w p f M vt s top)(hr:w.heap[r]?=some (.cells [i64 (x:Nat)].toArray gS (0,0)))
  (hn:av.length<=1000000)(hB:b<wbn)(hw:wbn<=w.heap.size)
  (hK:∀va' w',Loc w0 w' p f M vt b ExT [i64 k,str l,va',vk,i64 a]->Ro w0 w' p f M vt wbn gS 1 va' (av++[x]).length (ints (av++[x]))->PR w0 w' p f M vt s top->Chg (λk=>va.ownBlock=some k\/k=b) w w'->(∀k,va'.ownBlock=some k->va.ownBlock=some k\/w.heap.size<=k)->KW w'):
  fG P0 (Builtin.append_ #[26,26] ty #[va,.slice (some ⟨r,0,none⟩) 1 1]) w λt62 w36=>bA 2 (.pointer (some ⟨b,0,none⟩)) λt63=>stW 1 t63 t62 w36 KW:=by
 refine Ro.app Ak hR hp hr rfl (λu hu=>by simp only[aU]at hu;subst hu;rfl) hn (by decide) hw λv' w2 hR2 hc hv hp2=>?_;have e1:(av++[x]).length=av.length+1:=by simp
 rw[<-e1,show ints av++[i64 (x:Nat)]=ints (av++[x])from by simp[ints]]at hR2;rw[bH,bO,aQ];obtain⟨vp,vc,ev,_⟩:=hR2.own.sl.shape;refine(hL.row hc λe=>by have:=hR.new b e;omega).st (by rw[ev];rfl) (by simp) λw3 L3 hc3 hz3=>?_;exact hK v' w3 L3 (hR2.one hc3 λe=>by have:=hR2.new b e;omega) (hp2.one hc3 L3.2) ((hc.mono λk _ e=>.inl e).trans (hc3.mono λk _ e=>.inr e)) hv
theorem SP{E:PS->R Nat}{t:Tok}(hE:EC w0 f 118 E dl)(hF:pZ E)(h:PR w0 w p f M vt s top)(hg:Gd N s dl)(hc0:(cur s).k≠0)(hnow:aM s=s)
  (hK:∀e s',qY E s t.a=.ok e s'->∀M' va vk w',PR w0 w' p f M' vt s' top->Gd N s' dl->Eff p f M M' w w'->ER w0 w' p f M' vt w.heap.size e va vk->K (.agg (exc e va vk).toArray) w')(ht:∀c a',qY E s t.a=.err c a'->Thr w0 f c a'):
  aI P0 238 [.pointer (some ⟨p,0,none⟩),.agg (eK t).toArray] w K:=by
 refine PD ?_;unfold UZ;have hN:=hg.hN;have hg1:Gd N (step1 s) dl:=by have:=hg.step hc0;rw[hnow]at this;exact this
 refine iS (z:=eK t) λb3 w1 hb3 hz1 hbb1 hx1=>?_;have h1:=h.ext hx1;have L3:=h.loc hz1 hb3 hbb1;refine bN λb4 w2 hb4 hz2 hbb2 hx2=>?_;have h2:=h1.ext hx2;have L4:=h1.loc hz2 hb4 hbb2;have L3:=L3.ext hx2;have he2:Eff p f M M w w2:=(Eff.ext hx1).x hx2;refine h2.go (wsi hg.ws hg.l) λw3 h3 he3 hz3=>?_;have L3:=L3.eff he3;have L4:=L4.eff he3;have he3:=he2.trans he3;refine mG h3 hg1.ws hN hg1.l λw4 h4 he4=>?_;have L3:=L3.eff he4;have L4:=L4.eff he4;have he4:=he3.trans he4;have lt3:=L3.lt;have lt4:=L4.lt;refine bN λb5 w5 hb5 hz5 hbb5 hx5=>?_;have h5:=h4.ext hx5;have L5:=h4.loc hz5 hb5 hbb5;have L3:=L3.ext hx5;have L4:=L4.ext hx5;have he5:=he4.x hx5;have hw4:=he4.chg.size;refine cL (l:=eK (cur (step1 s))) L5.1 rfl rfl rfl λw6 hz6 hb6 hc6=>?_;have L5:Loc w0 w6 p f M vt b5 TkT (eK (cur (step1 s))):=⟨hb6,L5.2.up (by omega)⟩;have h6:=h5.one hc6 L5.2;have L3:=L3.one hc6 (by omega);have L4:=L4.one hc6 (by omega);have he6:=he5.one hc6 (by omega);have hw6:=he6.chg.size;have hgn:=hg1.now;refine L5.ldf rfl ?_;rw[gL];simp only[mH];refine GdW.look (decide ((cur (step1 s)).t≠oH)) (λ_ J hJ=>?_) λg=>?_
 ·refine L5.ldf rfl ?_;rw[pM];exact hJ
 simp only[aE];rw[lV,cU];unfold qY at hK ht;simp only at hK ht;refine⟨λhcc=>?_,λhcc=>?_⟩
 ·have hc:(cur (step1 s)).k≠1\/(cur (step1 s)).t≠oH:=by simpa using hcc
  rw[aF hc]at hK ht;have L3:=L3.drew;rw[bH,bO,aQ];refine L3.ld rfl ?_;refine MA hE hF h6.drew hgn (λl s' el M' v w7 h7 hg7 he7 hr7=>?_) λc a' el=>ht c a' (by rw[el];rfl);rw[el]at hK;simp only[R.bind]at hK;have L3:=L3.eff he7;refine⟨L3.ld rfl rfl,?_⟩;obtain⟨q,cap,ev,_⟩:=hr7.own.sl.shape;subst ev;simp only[dJ,iA,dQ,aA,aC,aR,aV,Nat.reduceAdd,Nat.reduceLT,dB,aY];have zd:w6.drew.heap.size=w6.heap.size:=rfl;have hER:ER w0 w7 p f M' vt w6.heap.size ⟨7,[],l,[],t.a⟩ (.slice q l.length cap) (.slice none 0 0):=ER.noK rfl hr7;refine GV (e:=⟨7,[],l,[],t.a⟩) h7 (L4.drew.eff he7) rfl hER (λe=>by have:=hr7.new _ e;omega) (by simp[Value.ownBlock]) λw8 h8 hc8 hE8=>?_;exact hK _ _ rfl M' _ _ w8 h8 hg7 (((he6.x (bM w6)).trans he7).one hc8 (by omega)) (hE8.le (by omega))
 ·have hc:¬((cur (step1 s)).k≠1\/(cur (step1 s)).t≠oH):=by simpa using hcc
  rw[aD hc]at hK ht;have hk1:(cur (step1 s)).k≠0:=λe=>hc (.inl (by rw[e];decide));have hgs:=hg1.step hk1;refine h6.go (wsi hgn.ws hgn.l) λw7 h7 he7 hz7=>?_;have L3:=L3.eff he7;have L4:=L4.eff he7;have he7:=he6.trans he7;refine cK.cut (λst w'=>∃b6 u s2,st=[.pointer (some ⟨b6,0,none⟩)]/\iC (step1 (aM (step1 s))) 1=.ok u s2/\PR w0 w' p f M vt s2 top/\Gd N s2 dl/\Eff p f M M w w'/\Loc w0 w' p f M vt b6 ExT [i64 29,str u.t,.slice none 0 0,.slice none 0 0,i64 t.a]/\Loc w0 w' p f M vt b4 ExT [.int .i64 0,.string (ofL []),.slice none 0 0,.slice none 0 0,.int .i64 0]/\b4<b6/\w.heap.size<=b6) ?_ ?_
  ·have L3:=L3.drew;have L4:=L4.drew;have h7:=h7.drew;have he7:=he7.x (bM w7);have zd:w7.drew.heap.size=w7.heap.size:=rfl;have ld3:∀{w':World},Loc w0 w' p f M vt b3 TkT (eK t)->ldW false 1 (.pointer (some ⟨b3,2,none⟩)) w' λx=>x=i64 t.a:=λL=>L.ld rfl rfl;rw[bH,bO,aQ];refine L3.ld rfl ?_;refine⟨?_,?_⟩
   ·refine vA h7 hgs.ws hN hgs.l (λu s2 eu w8 h8 he8=>?_) λc a' eu=>ht c a' (by rw[eu];rfl);have L3:=L3.eff he8;have L4:=L4.eff he8;have he8:=he7.trans he8;refine⟨ld3 L3,str u.t,rfl,?_⟩;simp only[dJ,eA,dQ,aA,aC,aR,aV,Nat.reduceAdd,Nat.reduceLT,dB,aY];refine bN λb6 w9 hb6' hz9 hbb9 hx9=>?_;have L6:=h8.loc hz9 hb6' hbb9;refine⟨ld3 (L3.ext hx9),?_⟩;refine cL (l:=[i64 29,str u.t,.slice none 0 0,.slice none 0 0,i64 t.a]) L6.1 rfl rfl rfl λw10 hz10 hbb10 hc10=>?_;have lt4':=L4.lt;have hw8:=he8.chg.size;exact⟨b6,u,s2,rfl,eu,(h8.ext hx9).one hc10 L6.2,(hgs.kind (by decide) eu).1,(he8.x hx9).one hc10 (by omega),⟨hbb10,L6.2.up (by omega)⟩,(L4.ext hx9).one hc10 (by omega),by omega,by omega⟩
   ·refine bN λb6 w9 hb6' hz9 hbb9 hx9=>?_;have L6:=h7.loc hz9 hb6' hbb9;have L3:=L3.ext hx9;have lt4':=L4.lt;have hw8:=he7.chg.size;refine⟨ld3 L3,?_⟩;refine vA (h7.ext hx9) hgs.ws hN hgs.l (λu s2 eu w8 h8 he8=>?_) λc a' eu=>ht c a' (by rw[eu];rfl);have L3:=L3.eff he8;have L4:=(L4.ext hx9).eff he8;have L6:=L6.eff he8;have he8:=(he7.x hx9).trans he8;refine⟨ld3 L3,str u.t,rfl,?_⟩;simp only[dJ,eA,dQ,aA,aC,aR,aV,Nat.reduceAdd,Nat.reduceLT,dB,aY];refine cL (l:=[i64 29,str u.t,.slice none 0 0,.slice none 0 0,i64 t.a]) L6.1 rfl rfl rfl λw10 hz10 hbb10 hc10=>?_;exact⟨b6,u,s2,rfl,eu,h8.one hc10 L6.2,(hgs.kind (by decide) eu).1,he8.one hc10 (by omega),⟨hbb10,L6.2.up (by omega)⟩,L4.one hc10 (by omega),by omega,by omega⟩
  rintro st g2 w8 ⟨b6,u,s2,rfl,eu,h8,hg8,he8,L6,L4,hb46,hwb6⟩;simp only[aE];rw[eu]at hK ht;simp only[R.bind]at hK ht;refine cK.cut (λ_ w'=>∃v s3,iC s2 1=.ok v s3/\v.t=kIn/\PR w0 w' p f M vt s3 top/\Gd N s3 dl/\Eff p f M M w8 w') ?_ ?_
  ·refine vA h8 hg8.ws hN hg8.l (λv s3 ev w9 h9 he9=>?_) λc a' ev=>ht c a' (by rw[ev]);refine bN λb7 w10 hb7 hz10 hbb10 hx10=>?_;have h10:=h9.ext hx10;have L7:=h9.loc hz10 hb7 hbb10;refine cL (l:=eK v) L7.1 rfl rfl rfl λw11 hz11 hbb11 hc11=>?_;have L7:Loc w0 w11 p f M vt b7 TkT (eK v):=⟨hbb11,L7.2.up (by omega)⟩;have h11:=h10.one hc11 L7.2;have z9:=he9.chg.size;refine L7.ldf rfl ?_;rw[pM,aN];refine⟨λhne=>?_,λhne=>⟨v,s3,ev,?_,h11,(hg8.kind (by decide) ev).1,(he9.x hx10).one hc11 (by omega)⟩⟩
   ·refine L7.ldf rfl ?_;exact pI h11 (ht _ _ (by rw[ev];simp only;exact aF hne))
   ·by_cases h:v.t=[105,110]
    ·exact h
    ·exact absurd h hne
  rintro _ g3 w9 ⟨v,s3,ev,hvt,h9,hg9,he9⟩;rw[ev]at hK ht;simp only[aD (show¬v.t≠kIn fromλh=>h hvt)]at hK ht;have L6:=(L6.eff he9).drew;have L4:=(L4.eff he9).drew;have h9:=h9.drew;have he9:=(he8.trans he9).x (bM w9);have zd:w9.drew.heap.size=w9.heap.size:=rfl;have hw9:=he9.chg.size;have lt6:=L6.lt;rw[bH,bO,aQ];refine L6.ld rfl ?_;refine hE w9.drew p M vt s3 top N _ h9 hg9 (λx s4 ex M4 w10 h10 he10=>?_) λc a' ex=>ht c a' (by rw[ex]);rw[ex]at hK ht;simp only at hK ht;obtain⟨hg10,_⟩:=hg9.e hF ex;have L6:=L6.eff he10;have L4:=L4.eff he10;have he10:=he9.trans he10;refine⟨L6.ld rfl rfl,?_⟩;refine jC λr w11 hr hz11 hrb hx11=>?_;have L6:=L6.ext hx11;have L4:=L4.ext hx11;have h11:=h10.ext hx11;have he11:=he10.x hx11;have hw11:=he11.chg.size;have lt6:=L6.lt;have lt4:=L4.lt;refine⟨L6.ld rfl rfl,?_⟩;refine IY (wbn:=w11.heap.size) (av:=[]) L6 (Ro.nil _ _) h11 hrb (by simp) lt6 (aL _) λva1 w12 L6 hR12 h12 hc12 hv12=>?_;have he12:=he11.then hc12 λk hk e=>by
   rcases e with e|e
   ·simp[Value.ownBlock]at e
   ·omega
  have hw12:=he12.chg.size;have L4:Loc w0 w12 p f M4 vt b4 ExT [.int .i64 0,.string (ofL []),.slice none 0 0,.slice none 0 0,.int .i64 0]:=⟨hc12.at L4.1 λe=>e.elim (by simp[Value.ownBlock]) (by omega),L4.2.up hc12.size⟩;have hz12:=hc12.size;refine uP h12 hg10.ws hN hg10.l (λs5 e5 w13 h13 he13=>?_) λc a' e5=>ht c a' (by rw[e5]);rw[e5]at hK ht;simp only at hK ht;obtain⟨hg13,_⟩:=hg10.want e5;have L6:=(L6.eff he13).drew;have L4:=(L4.eff he13).drew;have hR13:=(hR12.eff he13).ext (bM w13);have h13:=h13.drew;have zd13:w13.drew.heap.size=w13.heap.size:=rfl;have hz13:=he13.chg.size;have he13:=(he12.trans he13).x (bM w13);rw[bH,bO,aQ];refine L6.ld rfl ?_;refine hE w13.drew p M4 vt s5 top N _ h13 hg13 (λy s6 ey M6 w14 h14 he14=>?_) λc a' ey=>ht c a' (by rw[ey]);rw[ey]at hK ht;simp only at hK ht;obtain⟨hg14,_⟩:=hg13.e hF ey;have L6:=L6.eff he14;have L4:=L4.eff he14;have hR14:=hR13.eff he14;have hz14:=he14.chg.size;have he14:=he13.trans he14;refine⟨L6.ld rfl rfl,?_⟩;refine jC λr2 w15 hr2 hz15 hrb2 hx15=>?_;have L6:=L6.ext hx15;have L4:=L4.ext hx15;have h15:=h14.ext hx15;have he15:=he14.x hx15;refine⟨L6.ld rfl rfl,?_⟩;refine IY (wbn:=w11.heap.size) (av:=[x]) L6 (hR14.ext hx15) h15 hrb2 (by simp) (by omega) (by omega) λva2 w16 L6 hR16 h16 hc16 hv16=>?_;have he16:=he15.then hc16 λk hk e=>by
   rcases e with e|e
   ·have:=hR14.new k e;omega
   ·omega
  have L4:Loc w0 w16 p f M6 vt b4 ExT [.int .i64 0,.string (ofL []),.slice none 0 0,.slice none 0 0,.int .i64 0]:=⟨hc16.at L4.1 λe=>e.elim (λe=>by have:=hR14.new _ e;omega) (by omega),L4.2.up hc16.size⟩;refine uP h16 hg14.ws hN hg14.l (λs7 e7 w17 h17 he17=>?_) λc a' e7=>ht c a' (by rw[e7]);rw[e7]at hK;simp only at hK;obtain⟨hg17,_⟩:=hg14.want e7;have L6:=L6.eff he17;have L4:=L4.eff he17;have hR17:=hR16.eff he17;have he17:=he16.trans he17;refine fY L6.1 rfl ?_;refine GV (e:=⟨29,u.t,[x,y],[],t.a⟩) h17 L4 rfl (ER.noK rfl hR17) (λe=>by have:=hR17.new _ e;omega) (by simp[Value.ownBlock]) λw18 h18 hc18 hE18=>?_;exact hK _ _ rfl M6 _ _ w18 h18 hg17 (he17.one hc18 (by omega)) (hE18.le (by omega))
end
theorem Gd.tx{N:Int}{s:PS}{dl:Nat}(h:Gd N s dl)(hk:(cur s).k=3):Ar (cur s).t/\(cur s).t.length<=100000:=by
 have hn:=h.now;have hm:=bW (uR hn.ws);have:=hn.ts _ hm (show(jX (aM s)).k=3 from hk);exact this
section
variable [HX]
variable{w0 w w' w1:World}{p f b:Nat}{M M' M0:Lay}{vt:Value}{s:PS}{top:List Nat}{N:Int}{K:Q0}{e:Ex}{va vk:Value}{wbn:Nat}{wb:World}{dl:Nat}
theorem Lo{E:PS->R Nat}{t:Tok}(hE:EC w0 f 118 E dl)(hF:pZ E)(h:PR w0 w p f M vt s top)(hg:Gd N s dl)(hc0:(cur s).k≠0)(hnow:aM s=s)
  (hK:∀e s',BE E s t.a=.ok e s'->∀M' va vk w',PR w0 w' p f M' vt s' top->Gd N s' dl->Eff p f M M' w w'->ER w0 w' p f M' vt w.heap.size e va vk->K (.agg (exc e va vk).toArray) w')(ht:∀c a',BE E s t.a=.err c a'->Thr w0 f c a'):
  aI P0 240 [.pointer (some ⟨p,0,none⟩),.agg (eK t).toArray] w K:=by
 refine Pz ?_;unfold UX;have hN:=hg.hN;have hg1:Gd N (step1 s) dl:=by have:=hg.step hc0;rw[hnow]at this;exact this
 refine iS (z:=eK t) λb3 w1 hb3 hz1 hbb1 hx1=>?_;have h1:=h.ext hx1;have L3:=h.loc hz1 hb3 hbb1;refine bN λb4 w2 hb4 hz2 hbb2 hx2=>?_;have h2:=h1.ext hx2;have L4:=h1.loc hz2 hb4 hbb2;have L3:=L3.ext hx2;have he2:Eff p f M M w w2:=(Eff.ext hx1).x hx2;refine h2.go (wsi hg.ws hg.l) λw3 h3 he3 hz3=>?_;have L3:=L3.eff he3;have L4:=L4.eff he3;have he3:=he2.trans he3;refine L3.ldf rfl ?_;simp only[dJ,eA,dQ,aA,aC,aR,aV,Nat.reduceAdd,Nat.reduceLT,dB,aY];have lt4:=L4.lt;refine bN λb5 w4 hb5 hz4 hbb4 hx4=>?_;have L5:=h3.loc hz4 hb5 hbb4;have h4:=h3.ext hx4;have L4:=L4.ext hx4;refine cL (l:=[i64 8,str [],.slice none 0 0,.slice none 0 0,i64 t.a]) L5.1 rfl rfl rfl λw5 hz5 hbb5 hc5=>?_;have L5:Loc w0 w5 p f M vt b5 ExT [i64 8,str [],.slice none 0 0,.slice none 0 0,i64 t.a]:=⟨hbb5,L5.2.up (by omega)⟩;have h5:=h4.one hc5 L5.2;have L4:=L4.one hc5 (by omega);have he5:Eff p f M M w w5:=(he3.x hx4).one hc5 (by have:=he3.chg.size;omega);refine wJ h5 hg1.ws hN hg1.l λw6 h6 he6=>?_;have L4:=L4.eff he6;have L5:=L5.eff he6;have he6:=he5.trans he6;have hg6:=hg1.lines;unfold BE at hK ht;generalize hR:tQ E t.a (s.toks.length+1) (dG (step1 s)) [] []=R0 at hK ht;have hw6:=he6.chg.size;obtain⟨B1,hB1⟩:∃B1,B1=w6.heap.size:=⟨_,rfl⟩;have lt5:=L5.lt;have lt4:=L4.lt;have hw3:=he3.chg.size;have htl0:(dG (step1 s)).toks.length=s.toks.length:=congrArg List.length ((kK hg1.ws).1.toks);refine dD.go (λst w'=>st=[]/\∃s1 M1 av ks va vk n,PR w0 w' p f M1 vt s1 top/\Gd N s1 dl/\Eff p f M M1 w w'/\Loc w0 w' p f M1 vt b5 ExT [i64 8,str [],va,vk,i64 t.a]/\Loc w0 w' p f M1 vt b4 ExT [.int .i64 0,.string (ofL []),.slice none 0 0,.slice none 0 0,.int .i64 0]/\
   Ro w0 w' p f M1 vt B1 gS 1 va av.length (ints av)/\Ro w0 w' p f M1 vt B1 StT 1 vk ks.length (strs ks)/\(∀k,va.ownBlock=some k->vk.ownBlock≠some k)/\B1<=w'.heap.size/\tQ E t.a n s1 av ks=R0/\s1.toks.length<n+s1.i/\av.length<=s1.i/\ks.length=av.length/\s1.toks.length=s.toks.length) (λ_ w'=>s.toks.length-xL w' p)
  ⟨rfl,_,M,[],[],_,_,s.toks.length+1,h6,hg6,he6,L5,L4,Ro.nil _ _,Ro.nil _ _,λk hk=>by simp[Value.ownBlock]at hk,by omega,hR,by omega,by simp,rfl,htl0⟩ ?_
 rintro st g w7 ⟨rfl,s1,M1,av,ks,va,vk,n,h7,hg7,he7,L5,L4,rA,rK,dd,hz7,hob,hn,hav,hks,htl⟩;have hlt7:=hg7.ws.lt;obtain⟨n,rfl⟩:∃m,n=m+1:=⟨n-1,by omega⟩;refine sD h7 hg7.ws hN hg7.l λw8 h8 he8=>?_;have L4:=L4.eff he8;have L5:=L5.eff he8;have rA:=rA.eff he8;have rK:=rK.eff he8;have hz8:=he8.chg.size;have he8:=he7.trans he8;have hg8:=hg7.take [125];have tg:=iO hg7.ws [125];have tgt:=congrArg List.length tg.1.toks;simp only[tQ]at hob;rw[iN,cU];refine⟨λhnt=>?_,λhyt=>?_⟩
 ·have hnt:(aW s1 [125]).1=false:=by simpa using hnt
  rw[aD (by rw[hnt];decide)]at hob;generalize hs2:(aW s1 [125]).2=s2 at*
  refine Hl h8 hg8.ws hN hg8.l λw9 h9 he9=>?_;have L4:=L4.eff he9;have L5:=L5.eff he9;have rA:=rA.eff he9;have rK:=rK.eff he9;have hz9:=he9.chg.size;have he9:=he8.trans he9;have hg9:=hg8.next;have ng:=qJ hg8.ws;have ngt:=congrArg List.length ng.1.toks;have hc2:=hg8.at0;have lt5:=L5.lt;have lt4:=L4.lt;refine bN λb6 w10 hb6 hz10 hbb10 hx10=>?_;have L6:=h9.loc hz10 hb6 hbb10;have h10:=h9.ext hx10;have L4:=L4.ext hx10;have L5:=L5.ext hx10;have nA6:va.ownBlock≠some b6:=λe=>by have:=(rA.off _ e).1.2;omega
  have nK6:vk.ownBlock≠some b6:=λe=>by have:=(rK.off _ e).1.2;omega
  have rA:=rA.ext hx10;have rK:=rK.ext hx10;refine cL (l:=eK (cur s2)) L6.1 rfl rfl rfl λw11 hz11 hbb11 hc11=>?_;have L6:Loc w0 w11 p f M1 vt b6 TkT (eK (cur s2)):=⟨hbb11,L6.2.up (by omega)⟩;have h11:=h10.one hc11 L6.2;have L4:=L4.one hc11 (by omega);have L5:=L5.one hc11 (by omega);have rA:=rA.one hc11 nA6;have rK:=rK.one hc11 nK6;have he11:Eff p f M M1 w w11:=(he9.x hx10).one hc11 (by have:=he9.chg.size;omega);have hw11:=he11.chg.size;refine cK.cut (λ_ w'=>∃k s3,(if(cur s2).k=3 then kX (fB s2) (cur s2)else if(cur s2).k=1 then .ok (cur s2).t (fB s2)else .err 50 (cur s2).a)=.ok k s3/\s3=fB s2/\PR w0 w' p f M1 vt (fB s2) top/\Loc w0 w' p f M1 vt b6 TkT [i64 (cur s2).k,str k,i64 (cur s2).a]/\Eff p f M M1 w w'/\Loc w0 w' p f M1 vt b5 ExT [i64 8,str [],va,vk,i64 t.a]/\Loc w0 w' p f M1 vt b4 ExT [.int .i64 0,.string (ofL []),.slice none 0 0,.slice none 0 0,.int .i64 0]/\Ro w0 w' p f M1 vt B1 gS 1 va av.length (ints av)/\Ro w0 w' p f M1 vt B1 StT 1 vk ks.length (strs ks)/\w11.heap.size<=w'.heap.size) ?_ ?_
  ·refine L6.ldf rfl ?_;rw[bI,aN];refine⟨λhk3=>?_,λhk3=>?_⟩
   ·have htx:=hg8.tx hk3;rw[aF hk3]at hob;refine fY L6.1 rfl ?_;refine Il h11 htx.1 (by omega) (λl s3 el w12 hx12=>?_) λc a' el=>ht c a' (by rw[<-hob,el];rfl);rw[bH,bO,aQ];refine(L6.ext hx12).st rfl (by simp[eK]) λw13 L6 hc13 hz13=>?_;have h13:=(h11.ext hx12).one hc13 L6.2;have e3:s3=fB s2:=by
     unfold kX at el;split at el
     ·cases el
     ·injection el with _ el;exact el.symm
    exact⟨l,s3,by rw[aF hk3];exact el,e3,h13,L6,(he11.x hx12).one hc13 (by have:=he9.chg.size;omega),(L5.ext hx12).one hc13 (by omega),(L4.ext hx12).one hc13 (by omega),(rA.ext hx12).one hc13 nA6,(rK.ext hx12).one hc13 nK6,by have:=hx12.size;omega⟩
   ·rw[bI,aN];refine⟨λhk1=>?_,λhk1=>?_⟩
    ·exact⟨_,_,by rw[aD hk3,aF hk1],rfl,h11,L6,he11,L5,L4,rA,rK,aL _⟩
    ·refine L6.ldf rfl ?_;refine pI h11 (ht 50 (cur s2).a ?_);rw[<-hob,aD hk3,aD hk1];rfl
  rintro _ g2 w12 ⟨k,s3,ek,rfl,h12,L6,he12,L5,L4,rA,rK,hz12⟩;rw[ek]at hob;simp only[R.bind]at hob;refine cK.cut (λ_ w'=>w'=w12/\ks.contains k=false) ?_ ?_
  ·rw[bH,bO,aQ];refine L5.ld rfl ?_;refine L6.ldf rfl ?_;refine AD rK.own.sl (by have:=hg7.few;omega) ?_;rw[aN];refine⟨λhm=>?_,λhm=>⟨rfl,by simpa using hm⟩⟩;refine L6.ldf rfl ?_;refine pI h12 (ht 2 (cur s2).a ?_);rw[<-hob,aF (by simpa using hm)]
  rintro _ g3 w13 ⟨rfl,hnk⟩;rw[aD (by rw[hnk];decide)]at hob;refine uP h12 hg9.ws hN hg9.l (λs4 e4 w14 h14 he14=>?_) λc a' e4=>ht c a' (by rw[<-hob,e4]);rw[e4]at hob;simp only at hob;obtain⟨hg14,hi14,_⟩:=hg9.want e4;have w14s:=jQ hg9.ws [61];rw[e4]at w14s;have w14t:=congrArg List.length w14s.1.1.toks;have L4:=(L4.eff he14).drew;have L5:=(L5.eff he14).drew;have L6:=(L6.eff he14).drew;have rA:=(rA.eff he14).ext (bM w14);have rK:=(rK.eff he14).ext (bM w14);have hz14:=he14.chg.size;have zd14:w14.drew.heap.size=w14.heap.size:=rfl;have he14:=(he12.trans he14).x (bM w14);have h14:=h14.drew;rw[bH,bO,aQ];refine L5.ld rfl ?_;refine L6.ldf rfl ?_;rw[bH,bO,aQ];refine L5.ld rfl ?_;refine sA λr w15 hr hz15 hrb hx15=>?_;have L4:=L4.ext hx15;have L5:=L5.ext hx15;have rA:=rA.ext hx15;have rK:=rK.ext hx15;have h15:=h14.ext hx15;have he15:=he14.x hx15;have hw15:=he15.chg.size;refine⟨L5.ld rfl rfl,L5.ld rfl rfl,?_⟩;refine Ro.app IK rK h15 hrb rfl (λu hu=>by simp only[aU]at hu;subst hu;rfl) (by have:=hg7.few;omega) (by decide) (by omega) λvk' w16 rK' hc16 hv16 h16=>?_;have L5:=L5.row hc16 λe=>by have:=rK.new b5 e;omega
  have L4:=L4.row hc16 λe=>by have:=rK.new b4 e;omega
  have dd':∀k,va.ownBlock=some k->vk'.ownBlock≠some k:=λk hk e=>(hv16 k e).elim (dd k hk) λe=>by have:=(rA.off k hk).1.2;omega
  have rA:=rA.row hc16 dd;have he16:=he15.then hc16 λk hk e=>by have:=rK.new k e;omega
  have hz16:=hc16.size;refine⟨L5.ld rfl rfl,?_⟩;rw[bH,bO,aQ];refine hE w16 p M1 vt s4 top N _ h16 hg14 (λx s5 ex M5 w17 h17 he17=>?_) λc a' ex=>ht c a' (by rw[<-hob,ex]);rw[ex]at hob;simp only at hob;obtain⟨hg17,hi17⟩:=hg14.e hF ex;have e17t:=hF.ok N s4 hg14.ws;rw[ex]at e17t;have e17t:=congrArg List.length e17t.1.1.toks;have L4:=L4.eff he17;have L5:=L5.eff he17;have rA:=rA.eff he17;have rK:=rK'.eff he17;have hz17:=he17.chg.size;have he17:=he16.trans he17;refine⟨L5.ld rfl rfl,?_⟩;refine jC λr2 w18 hr2 hz18 hrb2 hx18=>?_;have L4:=L4.ext hx18;have L5:=L5.ext hx18;have rA:=rA.ext hx18;have rK:=rK.ext hx18;have h18:=h17.ext hx18;have he18:=he17.x hx18;have hw18:=he18.chg.size;refine⟨L5.ld rfl rfl,?_⟩;refine Ro.app Ak rA h18 hrb2 rfl (λu hu=>by simp only[aU]at hu;subst hu;rfl) (by have:=hg7.few;omega) (by decide) (by omega) λva' w19 rA' hc19 hv19 h19=>?_;have L5:=L5.row hc19 λe=>by have:=rA.new b5 e;omega
  have L4:=L4.row hc19 λe=>by have:=rA.new b4 e;omega
  have dd2:∀k,va'.ownBlock=some k->vk'.ownBlock≠some k:=λk hk e=>(hv19 k hk).elim (λh=>dd' k h e) λh=>by have:=(rK.off k e).1.2;omega
  have rK:=rK.row hc19 λk hk e=>dd' k e hk;have he19:=he18.then hc19 λk hk e=>by have:=rA.new k e;omega
  have hz19:=hc19.size;obtain⟨vp,vc,ev,_⟩:=rK.own.sl.shape;refine L5.st (by rw[ev];rfl) (by simp) λw20 L5 hc20 hz20=>?_;have h20:=h19.one hc20 L5.2;have L4:=L4.one hc20 (by omega);have nA5:va'.ownBlock≠some b5:=λe=>by have:=rA'.new b5 e;omega
  have nK5:vk'.ownBlock≠some b5:=λe=>by have:=rK.new b5 e;omega
  have rA:=rA'.one hc20 nA5;have rK:=rK.one hc20 nK5;rw[bH,bO,aQ];obtain⟨vp2,vc2,ev2,_⟩:=rA.own.sl.shape;refine L5.st (by rw[ev2];rfl) (by simp) λw21 L5 hc21 hz21=>?_;have h21:=h20.one hc21 L5.2;have L4:=L4.one hc21 (by omega);have rA:=rA.one hc21 nA5;have rK:=rK.one hc21 nK5;have hw5:w.heap.size<=b5:=by omega
  have he21:=(he19.one hc20 hw5).one hc21 hw5;simp only[aR,aV]at L5;have hg5:=hg17.take [44];have tg5:=iO hg17.ws [44];have tg5t:=congrArg List.length tg5.1.toks;refine cK.cut (λ_ w'=>∃s6,(s6=(aW s5 [44]).2\/s6=aM (aW s5 [44]).2)/\tQ E t.a n (dG s6) (av++[x]) (ks++[k])=R0/\PR w0 w' p f M5 vt s6 top/\Eff p f M5 M5 w21 w') ?_ ?_
  ·refine sD h21 hg17.ws hN hg17.l λw22 h22 he22=>?_;rw[iN];simp only[lI];by_cases hy:(aW s5 [44]).1=true
   ·rw[hy,lU,AG];intro g4;rw[kY];simp only[lI,AG];intro g5;rw[kY,cQ];rw[aD (λh=>by rw[hy]at h;exact absurd h.1 (by decide)),aF hy]at hob;exact⟨_,.inl rfl,hob,h22,he22⟩
   ·have hy:(aW s5 [44]).1=false:=by simpa using hy
    rw[hy,fJ];have hyn:(if(aW s5 [44]).1=true then(aW s5 [44]).2 else aM (aW s5 [44]).2)=aM (aW s5 [44]).2:=aD (by rw[hy];decide);rw[hyn]at hob;refine GdW.act (decide ((cur (aW s5 [44]).2).k≠5)) (λw'=>PR w0 w' p f M5 vt (aM (aW s5 [44]).2) top/\Eff p f M5 M5 w21 w') (λe=>by cases e) (λ_ J hJ=>?_) λg4 w23 hR23=>?_
    ·refine mG h22 hg5.ws hN hg5.l λw23 h23 he23=>?_;refine⟨i64 (cur (aW s5 [44]).2).k,rfl,?_⟩;dsimp only;rw[gL];exact hJ w23 ⟨h23,he22.trans he23⟩
    simp only[aE,cY,pD];obtain⟨h23,he23⟩:=hR23;have hgn:=hg5.now;by_cases h5:(cur (aW s5 [44]).2).k≠5
    ·rw[cO h5];simp only[lI];refine GdW.act (!isS (aM (aW s5 [44]).2) [125]) (λw'=>PR w0 w' p f M5 vt (aM (aW s5 [44]).2) top/\Eff p f M5 M5 w21 w') (λe=>by cases e) (λ_ J hJ=>?_) λg5 w24 hR24=>?_
     ·refine sA λb w24 hb hz24 hbb hx24=>?_;have h24:=h23.ext hx24;have L:=h23.loc hz24 hb hbb;refine SX h24 hgn.ws hN hgn.l ⟨yF hbb rfl,λk hk=>by simp only[Value.ownBlock,bD]at hk;subst hk;exact L.2⟩ λw25 h25 he25=>?_;rw[iN];rw[fW]at h25;exact hJ w25 ⟨h25,(he23.x hx24).trans he25⟩
     obtain⟨h24,he24⟩:=hR24;simp only[aE,cY,pD];rw[cU];refine⟨λhn'=>?_,λhn'=>?_⟩
     ·have hn':isS (aM (aW s5 [44]).2) [125]=false:=by simpa using hn'
      refine mG h24 hgn.ws hN hgn.l λw25 h25 he25=>?_;refine⟨i64 (cur (aM (aW s5 [44]).2)).a,rfl,?_⟩;refine pI h25 (ht 50 _ ?_);rw[<-hob,aF ⟨hy,h5,hn'⟩]
     ·have hn':isS (aM (aW s5 [44]).2) [125]=true:=by simpa using hn'
      rw[aD (λh=>by rw[h.2.2]at hn';cases hn')]at hob;exact⟨_,.inr rfl,hob,h24,he24⟩
    ·rw[cV h5];simp only[lI,AG];intro g5;rw[kY,cQ];rw[aD (λh=>h5 h.2.1)]at hob;exact⟨_,.inr rfl,hob,h23,he23⟩
  rintro _ g4 w22 ⟨s6,es6,hob6,h22,he22⟩;have hg6:Gd N s6 dl/\(aW s5 [44]).2.i<=s6.i/\s6.toks=(aW s5 [44]).2.toks:=by
   rcases es6 with rfl|rfl
   ·exact⟨hg5,aL _,rfl⟩
   ·exact⟨hg5.now,FS _,(eW hg5.ws).toks⟩
  obtain⟨hg6,hi6,et6⟩:=hg6;have et6:=congrArg List.length et6;refine wJ h22 hg6.ws hN hg6.l λw23 h23 he23=>?_;have lg:=kK hg6.ws;have lgt:=congrArg List.length lg.1.toks;have he223:=he22.trans he23;have hz22:=he223.chg.size;have i1:=tg.1.le;have i2:=ng.1.le;have i3:=tg5.1.le;have i4:=lg.1.le;have hg23:=hg6.lines;have hlt23:=hg23.ws.lt;refine⟨⟨rfl,dG s6,M5,av++[x],ks++[k],va',vk',n,h23,hg23,he21.trans he223,L5.eff he223,L4.eff he223,?_,?_,dd2,by omega,hob6,by omega,?_,by simp[hks],by omega⟩,?_⟩
  ·rw[aB,aA,aC,BR];exact rA.eff he223
  ·rw[aB,aA,aC,KA];exact rK.eff he223
  ·rw[aB,aA,aC];omega
  ·rw[h23.at_,h7.at_];omega
 ·have hyt:(aW s1 [125]).1=true:=by simpa using hyt
  rw[aF hyt]at hob;refine fY L5.1 rfl ?_;have hE8:ER w0 w8 p f M1 vt B1 ⟨8,[],av,ks,t.a⟩ va vk:=⟨rA,rK,dd⟩;refine GV (e:=⟨8,[],av,ks,t.a⟩) h8 L4 rfl hE8 (λe=>by have:=rA.new b4 e;omega) (λe=>by have:=rK.new b4 e;omega) λw9 h9 hc9 hE9=>?_;exact hK _ _ hob.symm M1 _ _ w9 h9 hg8 (he8.one hc9 (by omega)) (hE9.le (by omega))
end
end
end Go.Proofs.YtjblfcfdeaagpaaGreatDoor
