/- One plain sentence: weakest preconditions, contracts and plain laws that the claim rests on, text behind text. Conditions: those that each states. -/
import Derived.Shelf.Strings.Builder1
import Derived.Shelf.Small.Utf8
import Derived.Shelf.Small.Strs
import Derived.Shelf.Small.Wraps
import Derived.Shelf.Strings.BuilderF
import Derived.Shelf.Strings.BuilderK
import Derived.Shelf.Strings.BuilderRune
import Derived.Shelf.Strconv.Itoa0
import Derived.Shelf.Strconv.Itoa1
import Derived.Shelf.LaysM
import Derived.Shelf.Strconv.Itoa2
import Derived.Shelf.Strconv.Itoa3
import Derived.Shelf.Strconv.Itoa4
import Derived.Shelf.Strconv.Clone
import Derived.Ground.MpProg
import Derived.Shelf.Pu.ParseUintPublic10
import Derived.Shelf.Strings.Search1
import Derived.Shelf.Strings.Search2
import Derived.Shelf.Strings.Search3
import Derived.Shelf.Strings.Cut
import Derived.Shelf.Strings.Count
import Derived.Shelf.Strings.Shaped
import Derived.Shelf.Sort.Plain
import Derived.Shelf.Strings.LastIndex
import Derived.Shelf.Strings.Prefix
import Derived.Shelf.Strings.Runes
import Derived.Shelf.Strings.IndexAny
import Derived.Shelf.Strings.AsciiSet
import Derived.Shelf.Strings.IndexAnyAll
import Derived.Shelf.Unicode.DecodeSlow
import Derived.Shelf.Unicode.DecodeAny
import Derived.Ground.Names2Prog
import Derived.Shelf.Slices.Clone
import Derived.Shelf.Slices.CompactS
import Derived.Shelf.Unicode.ValidAny
import Derived.Test.YtcnjpcadejcenaaGreatDoorProg
import Derived.Test.YtcnjpcadejcenaaGreatDoorMP2
import Derived.Lib.ConvBytes
import Derived.Lib.ParseIntBCases
import Derived.Lib.Builder
import Derived.ProofKit
import Derived.WalkKit
import Derived.Lib.AppendStr
import Derived.Lib.RuneBytes
import Derived.Lib.DecodeN
set_option linter.all false
set_option linter.unusedSimpArgs false
set_option linter.unusedVariables false
set_option linter.unusedSectionVars false
namespace Go.Proofs
open Go.Shelf
def Tryz.lays170_ren : Go.Shelf.Ren := ⟨fun | 170 => 46 | n => n, fun | 70 => 76 | 3 => 3 | 0 => 0 | 72 => 78 | 37 => 44 | 5 => 5 | n => n, fun | n => n⟩
theorem Tryz.lays170 : Go.Proofs.Lays.n170 Tryz.prog Tryz.lays170_ren := {
  mixed := by kernel_rfl
  f170 := Tryz.func46.trans (congrArg some (by kernel_rfl))
  t0 := Tryz.underlying0
  a0 := Tryz.isAgg0
  z0 := Tryz.sizeOf0
  v0 := Tryz.zeroValue0
  t3 := Tryz.underlying3
  a3 := Tryz.isAgg3
  z3 := Tryz.sizeOf3
  v3 := Tryz.zeroValue3
  t37 := Tryz.underlying44
  a37 := Tryz.isAgg44
  z37 := Tryz.sizeOf44
  v37 := Tryz.zeroValue44
  t70 := Tryz.underlying76
  a70 := Tryz.isAgg76
  z70 := Tryz.sizeOf76
  v70 := Tryz.zeroValue76
  t72 := Tryz.underlying78
  a72 := Tryz.isAgg78
  z72 := Tryz.sizeOf78
  v72 := Tryz.zeroValue78 }
def Tryz.lays169_ren : Go.Shelf.Ren := ⟨fun | 169 => 47 | n => n, fun | 70 => 76 | 9 => 9 | 0 => 0 | 72 => 78 | 37 => 44 | 127 => 136 | 3 => 3 | 5 => 5 | n => n, fun | n => n⟩
theorem Tryz.lays169 : Go.Proofs.Lays.n169 Tryz.prog Tryz.lays169_ren := {
  mixed := by kernel_rfl
  f169 := Tryz.func47.trans (congrArg some (by kernel_rfl))
  t0 := Tryz.underlying0
  a0 := Tryz.isAgg0
  z0 := Tryz.sizeOf0
  v0 := Tryz.zeroValue0
  t3 := Tryz.underlying3
  a3 := Tryz.isAgg3
  z3 := Tryz.sizeOf3
  v3 := Tryz.zeroValue3
  t9 := Tryz.underlying9
  a9 := Tryz.isAgg9
  z9 := Tryz.sizeOf9
  v9 := Tryz.zeroValue9
  t37 := Tryz.underlying44
  a37 := Tryz.isAgg44
  z37 := Tryz.sizeOf44
  v37 := Tryz.zeroValue44
  t70 := Tryz.underlying76
  a70 := Tryz.isAgg76
  z70 := Tryz.sizeOf76
  v70 := Tryz.zeroValue76
  t72 := Tryz.underlying78
  a72 := Tryz.isAgg78
  z72 := Tryz.sizeOf78
  v72 := Tryz.zeroValue78
  t127 := Tryz.underlying136
  a127 := Tryz.isAgg136
  z127 := Tryz.sizeOf136
  v127 := Tryz.zeroValue136 }
theorem Tryz.Builder_Extra_169 : Builder.Extra Tryz.prog Tryz.lays169_ren := {
  sizeBuilder := by kernel_rfl
  liesBuilder := by kernel_rfl
  t5 := Tryz.underlying5
  a5 := Tryz.isAgg5
  z5 := Tryz.sizeOf5
  v5 := Tryz.zeroValue5
  infoByte := by kernel_rfl
  cellsByte := by kernel_rfl
  sizeByte := by kernel_rfl
  neB5 := by decide }
def Tryz.lays106_ren : Go.Shelf.Ren := ⟨fun | 106 => 243 | 213 => 271 | 265 => 289 | n => n, fun | 9 => 9 | 3 => 3 | n => n, fun | n => n⟩
theorem Tryz.lays106 : Go.Proofs.Lays.n106 Tryz.prog Tryz.lays106_ren := {
  mixed := by kernel_rfl
  f106 := Tryz.func243.trans (congrArg some (by kernel_rfl))
  f213 := Tryz.func271.trans (congrArg some (by kernel_rfl))
  f265 := Tryz.func289.trans (congrArg some (by kernel_rfl))
  t3 := Tryz.underlying3
  a3 := Tryz.isAgg3
  z3 := Tryz.sizeOf3
  v3 := Tryz.zeroValue3
  t9 := Tryz.underlying9
  a9 := Tryz.isAgg9
  z9 := Tryz.sizeOf9
  v9 := Tryz.zeroValue9 }
open Go.RowKit in
/-- strings.Compare: "Compare returns an integer comparing two strings lexicographically. The result will be 0 if a == b, -1 if a < b, and +1 if a > b.": IT RETURNS 'Lib.compareBytes a b'; the world is as it was. (LAID: no walk: one application.) -/
theorem Tryz.strings_Compare (a b : ByteArray) (w : World) :
    Calls Tryz.prog 243 #[.string a, .string b] w fun e w' => e = .returned (.int .i64 (Lib.compareBytes a.data.toList b.data.toList)) ∧ w' = w := Any.strings_Compare Tryz.lays106 a b w
def Tryz.lays137_ren : Go.Shelf.Ren := ⟨fun | 137 => 85 | 217 => 141 | 266 => 178 | n => n, fun | 9 => 9 | 5 => 5 | 3 => 3 | n => n, fun | n => n⟩
theorem Tryz.lays137 : Go.Proofs.Lays.n137 Tryz.prog Tryz.lays137_ren := {
  mixed := by kernel_rfl
  f137 := Tryz.func85.trans (congrArg some (by kernel_rfl))
  f217 := Tryz.func141.trans (congrArg some (by kernel_rfl))
  f266 := Tryz.func178.trans (congrArg some (by kernel_rfl))
  t3 := Tryz.underlying3
  a3 := Tryz.isAgg3
  z3 := Tryz.sizeOf3
  v3 := Tryz.zeroValue3
  t5 := Tryz.underlying5
  a5 := Tryz.isAgg5
  z5 := Tryz.sizeOf5
  v5 := Tryz.zeroValue5
  t9 := Tryz.underlying9
  a9 := Tryz.isAgg9
  z9 := Tryz.sizeOf9
  v9 := Tryz.zeroValue9 }
open Go.RowKit in
/-- strings.IndexByte: "IndexByte returns the index of the first instance of c in s, or -1 if c is not present in s.": IT RETURNS 'Lib.indexByte s c'; the world is as it was. (LAID: no walk: one application.) -/
theorem Tryz.strings_IndexByte (s : ByteArray) (c : Int) (w : World) :
    Calls Tryz.prog 85 #[.string s, .int .u8 c] w fun e w' => e = .returned (.int .i64 (Lib.indexByte s.data.toList c.toNat.toUInt8)) ∧ w' = w := Any.strings_IndexByte Tryz.lays137 s c w
def Tryz.lays121_ren : Go.Shelf.Ren := ⟨fun | 121 => 104 | 214 => 152 | n => n, fun | 4 => 4 | 9 => 9 | n => n, fun | n => n⟩
theorem Tryz.lays121 : Go.Proofs.Lays.n121 Tryz.prog Tryz.lays121_ren := {
  mixed := by kernel_rfl
  f121 := Tryz.func104.trans (congrArg some (by kernel_rfl))
  f214 := Tryz.func152.trans (congrArg some (by kernel_rfl))
  t4 := Tryz.underlying4
  a4 := Tryz.isAgg4
  z4 := Tryz.sizeOf4
  v4 := Tryz.zeroValue4
  t9 := Tryz.underlying9
  a9 := Tryz.isAgg9
  z9 := Tryz.sizeOf9
  v9 := Tryz.zeroValue9 }
open Go.RowKit in
/-- strconv.FormatBool: "FormatBool returns "true" or "false" according to the value of b.": IT RETURNS 'Lib.formatBool b'; the world is as it was. (LAID: no walk: one application.) -/
theorem Tryz.strconv_FormatBool (b : Bool) (w : World) :
    Calls Tryz.prog 104 #[.bool b] w fun e w' => e = .returned (.string ⟨(Lib.formatBool b).toArray⟩) ∧ w' = w := Any.strconv_FormatBool Tryz.lays121 b w
open Go.RowKit in
/-- (*strings.Builder).Len: "Len returns the number of accumulated bytes; b.Len() == len(b.String()).": the world is as it was. (THE FORM '_f': 'Lib.IsBuilderF'.) (LAID: no walk: one application.) -/
theorem Tryz.Builder_Len_f (B b : Nat) (bs : List Value) (w : World) (h : Lib.IsBuilderF 78 5 B b bs w) :
    Calls Tryz.prog 46 #[.pointer (some ⟨b, 0, none⟩)] w fun e w' => e = .returned (.int .i64 bs.length) ∧ w' = w := Any.Builder_Len_f Tryz.lays170 B b bs w h
open Go.RowKit in
/-- (*strings.Builder).String: "String returns the accumulated string.": WHATEVER THE BUILDER HOLDS; THE FORM '_k': OVER 'Lib.IsBuilderF' (a builder that 'String()' may have read), AND WITH THE FRAME THAT REACHES ABOVE THE BUILDER: 'Lib.OthersKept': every block that is not b and is no row of uint8's stands as it stood: the iterator of a range among them. (LAID: no walk: one application.) -/
theorem Tryz.Builder_String_any_k (B b : Nat) (l : List UInt8) (w : World) (h : Lib.IsBuilderF 78 5 B b (Lib.byteCells l) w) (hBw : B ≤ w.heap.size) :
    Calls Tryz.prog 47 #[.pointer (some ⟨b, 0, none⟩)] w fun e w' => e = .returned (.string ⟨l.toArray⟩) ∧ (Lib.IsBuilderF 78 5 B b (Lib.byteCells l) w' ∧ Below B w w' ∧ Lib.OthersKept 5 (some b) w w') := Any.Builder_String_any_k Tryz.lays169 Tryz.Builder_Extra_169 B b l w h hBw
def Tryz.laysM171_ren : Go.Shelf.Ren := ⟨fun | 171 => 67 | 243 => 128 | 246 => 172 | 283 => 196 | 284 => 197 | 285 => 198 | 286 => 199 | 129 => 212 | 317 => 245 | 318 => 246 | 319 => 247 | 320 => 248 | 337 => 272 | 338 => 273 | n => n, fun | 3 => 3 | 9 => 9 | 2 => 2 | 4 => 4 | 171 => 191 | 0 => 0 | 53 => 182 | 37 => 44 | 5 => 5 | 173 => 194 | 212 => 224 | 51 => 205 | 20 => 20 | 213 => 225 | 46 => 43 | 232 => 262 | 233 => 263 | n => n, fun | 17 => 3 | 18 => 6 | 19 => 7 | n => n⟩
theorem Tryz.laysM171 : Go.Proofs.LaysM.n171 Tryz.prog Tryz.laysM171_ren := {
  mixed := by kernel_rfl
  f129 := Tryz.func212.trans (congrArg some (by kernel_rfl))
  f171 := Tryz.func67.trans (congrArg some (by kernel_rfl))
  f243 := Tryz.func128.trans (congrArg some (by kernel_rfl))
  f246 := Tryz.func172.trans (congrArg some (by kernel_rfl))
  f283 := Tryz.func196.trans (congrArg some (by kernel_rfl))
  f284 := Tryz.func197.trans (congrArg some (by kernel_rfl))
  f285 := Tryz.func198.trans (congrArg some (by kernel_rfl))
  f286 := Tryz.func199.trans (congrArg some (by kernel_rfl))
  f317 := Tryz.func245.trans (congrArg some (by kernel_rfl))
  f318 := Tryz.func246.trans (congrArg some (by kernel_rfl))
  f319 := Tryz.func247.trans (congrArg some (by kernel_rfl))
  f320 := Tryz.func248.trans (congrArg some (by kernel_rfl))
  f337 := Tryz.func272.trans (congrArg some (by kernel_rfl))
  f338 := Tryz.func273.trans (congrArg some (by kernel_rfl))
  t0 := Tryz.underlying0
  a0 := Tryz.isAgg0
  z0 := Tryz.sizeOf0
  v0 := Tryz.zeroValue0
  t2 := Tryz.underlying2
  a2 := Tryz.isAgg2
  z2 := Tryz.sizeOf2
  v2 := Tryz.zeroValue2
  t3 := Tryz.underlying3
  a3 := Tryz.isAgg3
  z3 := Tryz.sizeOf3
  v3 := Tryz.zeroValue3
  t4 := Tryz.underlying4
  a4 := Tryz.isAgg4
  z4 := Tryz.sizeOf4
  v4 := Tryz.zeroValue4
  t5 := Tryz.underlying5
  a5 := Tryz.isAgg5
  z5 := Tryz.sizeOf5
  v5 := Tryz.zeroValue5
  t9 := Tryz.underlying9
  a9 := Tryz.isAgg9
  z9 := Tryz.sizeOf9
  v9 := Tryz.zeroValue9
  t20 := Tryz.underlying20
  a20 := Tryz.isAgg20
  z20 := Tryz.sizeOf20
  v20 := Tryz.zeroValue20
  t37 := Tryz.underlying44
  a37 := Tryz.isAgg44
  z37 := Tryz.sizeOf44
  v37 := Tryz.zeroValue44
  t46 := Tryz.underlying43
  a46 := Tryz.isAgg43
  z46 := Tryz.sizeOf43
  v46 := Tryz.zeroValue43
  t51 := Tryz.underlying205
  a51 := Tryz.isAgg205
  z51 := Tryz.sizeOf205
  v51 := Tryz.zeroValue205
  t53 := Tryz.underlying182
  a53 := Tryz.isAgg182
  z53 := Tryz.sizeOf182
  v53 := Tryz.zeroValue182
  t171 := Tryz.underlying191
  a171 := Tryz.isAgg191
  z171 := Tryz.sizeOf191
  v171 := Tryz.zeroValue191
  t173 := Tryz.underlying194
  a173 := Tryz.isAgg194
  z173 := Tryz.sizeOf194
  v173 := Tryz.zeroValue194
  t212 := Tryz.underlying224
  a212 := Tryz.isAgg224
  z212 := Tryz.sizeOf224
  v212 := Tryz.zeroValue224
  t213 := Tryz.underlying225
  a213 := Tryz.isAgg225
  z213 := Tryz.sizeOf225
  t232 := Tryz.underlying262
  a232 := Tryz.isAgg262
  z232 := Tryz.sizeOf262
  v232 := Tryz.zeroValue262
  t233 := Tryz.underlying263
  a233 := Tryz.isAgg263
  z233 := Tryz.sizeOf263
  v233 := Tryz.zeroValue263
  g17 := by kernel_rfl
  g18 := by kernel_rfl
  g19 := by kernel_rfl
  i0 := by kernel_rfl
  i2 := by kernel_rfl
  i3 := by kernel_rfl
  i4 := by kernel_rfl
  i5 := by kernel_rfl
  i9 := by kernel_rfl
  i20 := by kernel_rfl
  i37 := by kernel_rfl
  i46 := by kernel_rfl
  i51 := by kernel_rfl
  i53 := by kernel_rfl
  i171 := by kernel_rfl
  i173 := by kernel_rfl
  i212 := by kernel_rfl
  i232 := by kernel_rfl
  i233 := by kernel_rfl
  m17 := by kernel_rfl
  m18 := by kernel_rfl
  m19 := by kernel_rfl }
open Go.RowKit Go.Sort Go.Lib in
/-- strconv.Itoa: "Itoa is equivalent to FormatInt(int64(i), 10).": i's DECIMAL NUMERAL ('Lib.itoa': a '-' where i is negative, then the digits), FOR EVERY int. The world behind the call: the world before it, new blocks behind the heap (the library's 'var a [24]byte'), draws. (LAID: no walk: one application.) -/
theorem Tryz.strconv_Itoa (n : Int) (h0 : -9223372036854775808 ≤ n) (h1 : n ≤ 9223372036854775807) (w : World) (htab : Lib.TabIs Tryz.prog w "internal/strconv.uint64pow10" .u64 Lib.pow10Tab) :
    Calls Tryz.prog 67 #[.int .i64 n] w fun e w' => e = .returned (.string ⟨(Lib.itoa n).toArray⟩) ∧ ∃ k os, w' = grow (w.drewN k) os := Any.strconv_Itoa Tryz.laysM171 n h0 h1 w htab
def Tryz.laysM316_ren : Go.Shelf.Ren := ⟨fun | 316 => 134 | n => n, fun | 9 => 9 | 3 => 3 | 4 => 4 | 37 => 44 | 0 => 0 | 127 => 136 | 5 => 5 | n => n, fun | n => n⟩
theorem Tryz.laysM316 : Go.Proofs.LaysM.n316 Tryz.prog Tryz.laysM316_ren := {
  mixed := by kernel_rfl
  f316 := Tryz.func134.trans (congrArg some (by kernel_rfl))
  t0 := Tryz.underlying0
  a0 := Tryz.isAgg0
  z0 := Tryz.sizeOf0
  v0 := Tryz.zeroValue0
  t3 := Tryz.underlying3
  a3 := Tryz.isAgg3
  z3 := Tryz.sizeOf3
  v3 := Tryz.zeroValue3
  t4 := Tryz.underlying4
  a4 := Tryz.isAgg4
  z4 := Tryz.sizeOf4
  v4 := Tryz.zeroValue4
  t9 := Tryz.underlying9
  a9 := Tryz.isAgg9
  z9 := Tryz.sizeOf9
  v9 := Tryz.zeroValue9
  t37 := Tryz.underlying44
  a37 := Tryz.isAgg44
  z37 := Tryz.sizeOf44
  v37 := Tryz.zeroValue44
  t127 := Tryz.underlying136
  a127 := Tryz.isAgg136
  z127 := Tryz.sizeOf136
  v127 := Tryz.zeroValue136
  t5 := Tryz.underlying5
  a5 := Tryz.isAgg5
  z5 := Tryz.sizeOf5
  v5 := Tryz.zeroValue5
  i0 := by kernel_rfl
  i3 := by kernel_rfl
  i4 := by kernel_rfl
  i5 := by kernel_rfl
  i9 := by kernel_rfl
  i37 := by kernel_rfl
  i127 := by kernel_rfl }
open Go.RowKit in
/-- internal/stringslite.Clone (what strings.Clone calls): "Clone returns a fresh copy of s.": THE SAME BYTES. Of what was there nothing has turned (a new row is laid, and frozen, where s is not empty). (LAID: no walk: one application.) -/
theorem Tryz.stringslite_Clone (s : ByteArray) (w : World) (hlim : s.size ≤ 281474976710656) :
    Calls Tryz.prog 134 #[.string s] w fun e w' => e = .returned (.string s) ∧ Below w.heap.size w w' := Any.stringslite_Clone Tryz.laysM316 s w hlim
def Tryz.laysPu14_ren : Go.Shelf.Ren := ⟨fun | 14 => 225 | 16 => 255 | 17 => 180 | 19 => 275 | 20 => 276 | 21 => 214 | 22 => 215 | 23 => 216 | 24 => 217 | 25 => 134 | 27 => 67 | 26 => 256 | 28 => 128 | 29 => 172 | 30 => 196 | 31 => 197 | 32 => 198 | 33 => 199 | 35 => 212 | 34 => 245 | 36 => 246 | 37 => 247 | 38 => 248 | 39 => 272 | 40 => 273 | n => n, fun | 9 => 9 | 3 => 3 | 22 => 182 | 24 => 111 | 25 => 212 | 4 => 4 | 34 => 206 | 5 => 5 | 36 => 43 | 37 => 44 | 0 => 0 | 39 => 209 | 21 => 21 | 44 => 234 | 47 => 136 | 50 => 253 | 48 => 251 | 2 => 2 | 52 => 191 | 55 => 194 | 59 => 224 | 60 => 205 | 20 => 20 | 61 => 225 | 65 => 262 | 66 => 263 | 67 => 81 | n => n, fun | 0 => 4 | 1 => 5 | 2 => 3 | 3 => 6 | 4 => 7 | n => n⟩
theorem Tryz.laysPu14 : Go.Proofs.LaysPu.n14 Tryz.prog Tryz.laysPu14_ren := {
  mixed := by kernel_rfl
  f14 := Tryz.func225.trans (congrArg some (by kernel_rfl))
  f16 := Tryz.func255.trans (congrArg some (by kernel_rfl))
  f17 := Tryz.func180.trans (congrArg some (by kernel_rfl))
  f19 := Tryz.func275.trans (congrArg some (by kernel_rfl))
  f20 := Tryz.func276.trans (congrArg some (by kernel_rfl))
  f21 := Tryz.func214.trans (congrArg some (by kernel_rfl))
  f22 := Tryz.func215.trans (congrArg some (by kernel_rfl))
  f23 := Tryz.func216.trans (congrArg some (by kernel_rfl))
  f24 := Tryz.func217.trans (congrArg some (by kernel_rfl))
  f25 := Tryz.func134.trans (congrArg some (by kernel_rfl))
  f26 := Tryz.func256.trans (congrArg some (by kernel_rfl))
  f27 := Tryz.func67.trans (congrArg some (by kernel_rfl))
  f28 := Tryz.func128.trans (congrArg some (by kernel_rfl))
  f29 := Tryz.func172.trans (congrArg some (by kernel_rfl))
  f30 := Tryz.func196.trans (congrArg some (by kernel_rfl))
  f31 := Tryz.func197.trans (congrArg some (by kernel_rfl))
  f32 := Tryz.func198.trans (congrArg some (by kernel_rfl))
  f33 := Tryz.func199.trans (congrArg some (by kernel_rfl))
  f34 := Tryz.func245.trans (congrArg some (by kernel_rfl))
  f35 := Tryz.func212.trans (congrArg some (by kernel_rfl))
  f36 := Tryz.func246.trans (congrArg some (by kernel_rfl))
  f37 := Tryz.func247.trans (congrArg some (by kernel_rfl))
  f38 := Tryz.func248.trans (congrArg some (by kernel_rfl))
  f39 := Tryz.func272.trans (congrArg some (by kernel_rfl))
  f40 := Tryz.func273.trans (congrArg some (by kernel_rfl))
  t0 := Tryz.underlying0
  a0 := Tryz.isAgg0
  z0 := Tryz.sizeOf0
  v0 := Tryz.zeroValue0
  i0 := by kernel_rfl
  t2 := Tryz.underlying2
  a2 := Tryz.isAgg2
  z2 := Tryz.sizeOf2
  v2 := Tryz.zeroValue2
  i2 := by kernel_rfl
  t3 := Tryz.underlying3
  a3 := Tryz.isAgg3
  z3 := Tryz.sizeOf3
  v3 := Tryz.zeroValue3
  i3 := by kernel_rfl
  t4 := Tryz.underlying4
  a4 := Tryz.isAgg4
  z4 := Tryz.sizeOf4
  v4 := Tryz.zeroValue4
  i4 := by kernel_rfl
  t5 := Tryz.underlying5
  a5 := Tryz.isAgg5
  z5 := Tryz.sizeOf5
  v5 := Tryz.zeroValue5
  i5 := by kernel_rfl
  t9 := Tryz.underlying9
  a9 := Tryz.isAgg9
  z9 := Tryz.sizeOf9
  v9 := Tryz.zeroValue9
  i9 := by kernel_rfl
  t20 := Tryz.underlying20
  a20 := Tryz.isAgg20
  z20 := Tryz.sizeOf20
  v20 := Tryz.zeroValue20
  i20 := by kernel_rfl
  t21 := Tryz.underlying21
  a21 := Tryz.isAgg21
  z21 := Tryz.sizeOf21
  v21 := Tryz.zeroValue21
  i21 := by kernel_rfl
  t22 := Tryz.underlying182
  a22 := Tryz.isAgg182
  z22 := Tryz.sizeOf182
  v22 := Tryz.zeroValue182
  i22 := by kernel_rfl
  t24 := Tryz.underlying111
  a24 := Tryz.isAgg111
  z24 := Tryz.sizeOf111
  v24 := Tryz.zeroValue111
  i24 := by kernel_rfl
  t25 := Tryz.underlying212
  a25 := Tryz.isAgg212
  z25 := Tryz.sizeOf212
  v25 := Tryz.zeroValue212
  i25 := by kernel_rfl
  t34 := Tryz.underlying206
  a34 := Tryz.isAgg206
  z34 := Tryz.sizeOf206
  v34 := Tryz.zeroValue206
  i34 := by kernel_rfl
  c34 := by kernel_rfl
  t36 := Tryz.underlying43
  a36 := Tryz.isAgg43
  z36 := Tryz.sizeOf43
  v36 := Tryz.zeroValue43
  i36 := by kernel_rfl
  t37 := Tryz.underlying44
  a37 := Tryz.isAgg44
  z37 := Tryz.sizeOf44
  v37 := Tryz.zeroValue44
  i37 := by kernel_rfl
  t39 := Tryz.underlying209
  a39 := Tryz.isAgg209
  z39 := Tryz.sizeOf209
  v39 := Tryz.zeroValue209
  i39 := by kernel_rfl
  t44 := Tryz.underlying234
  a44 := Tryz.isAgg234
  z44 := Tryz.sizeOf234
  v44 := Tryz.zeroValue234
  i44 := by kernel_rfl
  t47 := Tryz.underlying136
  a47 := Tryz.isAgg136
  z47 := Tryz.sizeOf136
  v47 := Tryz.zeroValue136
  i47 := by kernel_rfl
  t48 := Tryz.underlying251
  a48 := Tryz.isAgg251
  z48 := Tryz.sizeOf251
  v48 := Tryz.zeroValue251
  i48 := by kernel_rfl
  t50 := Tryz.underlying253
  a50 := Tryz.isAgg253
  z50 := Tryz.sizeOf253
  v50 := Tryz.zeroValue253
  i50 := by kernel_rfl
  t52 := Tryz.underlying191
  a52 := Tryz.isAgg191
  z52 := Tryz.sizeOf191
  v52 := Tryz.zeroValue191
  i52 := by kernel_rfl
  t55 := Tryz.underlying194
  a55 := Tryz.isAgg194
  z55 := Tryz.sizeOf194
  v55 := Tryz.zeroValue194
  i55 := by kernel_rfl
  t59 := Tryz.underlying224
  a59 := Tryz.isAgg224
  z59 := Tryz.sizeOf224
  v59 := Tryz.zeroValue224
  i59 := by kernel_rfl
  t60 := Tryz.underlying205
  a60 := Tryz.isAgg205
  z60 := Tryz.sizeOf205
  v60 := Tryz.zeroValue205
  i60 := by kernel_rfl
  t61 := Tryz.underlying225
  a61 := Tryz.isAgg225
  z61 := Tryz.sizeOf225
  t65 := Tryz.underlying262
  a65 := Tryz.isAgg262
  z65 := Tryz.sizeOf262
  v65 := Tryz.zeroValue262
  i65 := by kernel_rfl
  t66 := Tryz.underlying263
  a66 := Tryz.isAgg263
  z66 := Tryz.sizeOf263
  v66 := Tryz.zeroValue263
  i66 := by kernel_rfl
  t67 := Tryz.underlying81
  a67 := Tryz.isAgg81
  z67 := Tryz.sizeOf81
  v67 := Tryz.zeroValue81
  i67 := by kernel_rfl
  g0 := by kernel_rfl
  m0 := by kernel_rfl
  g1 := by kernel_rfl
  m1 := by kernel_rfl
  g2 := by kernel_rfl
  m2 := by kernel_rfl
  g3 := by kernel_rfl
  m3 := by kernel_rfl
  g4 := by kernel_rfl
  m4 := by kernel_rfl }
open Go.RowKit in
/-- strconv.ParseUint(s, 10, 64), AT EVERY STRING THAT SPELLS A uint64 ('Lib.parseUintB 64 s.data.toList = .ok u'): u, AND NO ERROR. (LAID: no walk: one application.) -/
theorem Tryz.strconv_ParseUint_10_at64_ok (s : ByteArray) (hmax : s.size ≤ 9223372036854775806) (u : Nat) (h : Lib.parseUintB 64 s.data.toList = .ok u) (w : World) :
    Calls Tryz.prog 225 #[.string s, .int .i64 10, .int .i64 64] w fun e w' => e = .returned (.tuple #[.int .u64 u, .nilIface]) ∧ (w' = w ∨ w' = Lib.bytesWorld w 5 s) := Any.strconv_ParseUint_10_at64_ok Tryz.laysPu14 s hmax u h w
def Tryz.lays217_ren : Go.Shelf.Ren := ⟨fun | 217 => 141 | 266 => 178 | n => n, fun | 9 => 9 | 5 => 5 | 3 => 3 | n => n, fun | n => n⟩
theorem Tryz.lays217 : Go.Proofs.Lays.n217 Tryz.prog Tryz.lays217_ren := {
  mixed := by kernel_rfl
  f217 := Tryz.func141.trans (congrArg some (by kernel_rfl))
  f266 := Tryz.func178.trans (congrArg some (by kernel_rfl))
  t3 := Tryz.underlying3
  a3 := Tryz.isAgg3
  z3 := Tryz.sizeOf3
  v3 := Tryz.zeroValue3
  t5 := Tryz.underlying5
  a5 := Tryz.isAgg5
  z5 := Tryz.sizeOf5
  v5 := Tryz.zeroValue5
  t9 := Tryz.underlying9
  a9 := Tryz.isAgg9
  z9 := Tryz.sizeOf9
  v9 := Tryz.zeroValue9 }
open Go.RowKit Go.Lib in
/-- internal/stringslite.IndexByte (what strings.IndexByte calls): IT RETURNS 'Lib.indexByte s c'; the world is as it was. (LAID: no walk: one application.) -/
theorem Tryz.stringslite_IndexByte (s : ByteArray) (c : Int) (w : World) :
    Calls Tryz.prog 141 #[.string s, .int .u8 c] w fun e w' => e = .returned (.int .i64 (Lib.indexByte s.data.toList c.toNat.toUInt8)) ∧ w' = w := Any.stringslite_IndexByte Tryz.lays217 s c w
def Tryz.lays138_ren : Go.Shelf.Ren := ⟨fun | 138 => 71 | 195 => 130 | 218 => 131 | 143 => 132 | 219 => 173 | 217 => 141 | 225 => 200 | 224 => 201 | 267 => 202 | 266 => 178 | 314 => 249 | n => n, fun | 9 => 9 | 3 => 3 | 4 => 4 | 5 => 5 | 0 => 0 | 46 => 43 | 146 => 226 | 51 => 205 | n => n, fun | 1 => 2 | n => n⟩
theorem Tryz.lays138 : Go.Proofs.Lays.n138 Tryz.prog Tryz.lays138_ren := {
  mixed := by kernel_rfl
  f138 := Tryz.func71.trans (congrArg some (by kernel_rfl))
  f143 := Tryz.func132.trans (congrArg some (by kernel_rfl))
  f195 := Tryz.func130.trans (congrArg some (by kernel_rfl))
  f217 := Tryz.func141.trans (congrArg some (by kernel_rfl))
  f218 := Tryz.func131.trans (congrArg some (by kernel_rfl))
  f219 := Tryz.func173.trans (congrArg some (by kernel_rfl))
  f224 := Tryz.func201.trans (congrArg some (by kernel_rfl))
  f225 := Tryz.func200.trans (congrArg some (by kernel_rfl))
  f266 := Tryz.func178.trans (congrArg some (by kernel_rfl))
  f267 := Tryz.func202.trans (congrArg some (by kernel_rfl))
  f314 := Tryz.func249.trans (congrArg some (by kernel_rfl))
  t0 := Tryz.underlying0
  a0 := Tryz.isAgg0
  z0 := Tryz.sizeOf0
  v0 := Tryz.zeroValue0
  t3 := Tryz.underlying3
  a3 := Tryz.isAgg3
  z3 := Tryz.sizeOf3
  v3 := Tryz.zeroValue3
  t4 := Tryz.underlying4
  a4 := Tryz.isAgg4
  z4 := Tryz.sizeOf4
  v4 := Tryz.zeroValue4
  t5 := Tryz.underlying5
  a5 := Tryz.isAgg5
  z5 := Tryz.sizeOf5
  v5 := Tryz.zeroValue5
  t9 := Tryz.underlying9
  a9 := Tryz.isAgg9
  z9 := Tryz.sizeOf9
  v9 := Tryz.zeroValue9
  t46 := Tryz.underlying43
  a46 := Tryz.isAgg43
  z46 := Tryz.sizeOf43
  v46 := Tryz.zeroValue43
  t51 := Tryz.underlying205
  a51 := Tryz.isAgg205
  z51 := Tryz.sizeOf205
  v51 := Tryz.zeroValue205
  t146 := Tryz.underlying226
  a146 := Tryz.isAgg226
  z146 := Tryz.sizeOf226
  v146 := Tryz.zeroValue226
  g1 := by kernel_rfl }
open Go.RowKit Go.Lib in
/-- strings.Count AT A substr OF ONE BYTE ('hp'): "Count counts the number of non-overlapping instances of substr in s.": IT RETURNS 'Lib.countByte s (that byte)'; the world is as it was. ✋ NO CONTRACT HERE YET at an empty substr (utf8.RuneCountInString) or at a longer one (a loop over strings.Index). (LAID: no walk: one application.) -/
theorem Tryz.strings_Count_one (s : ByteArray) (c : UInt8) (w : World) :
    Calls Tryz.prog 71 #[.string s, .string ⟨#[c]⟩] w fun e w' => e = .returned (.int .i64 (Lib.countByte s.data.toList c)) ∧ w' = w := Any.strings_Count_one Tryz.lays138 s c w
def Tryz.lays190_ren : Go.Shelf.Ren := ⟨fun | 190 => 167 | 125 => 175 | 258 => 194 | 128 => 211 | 129 => 212 | 302 => 232 | 303 => 233 | 304 => 234 | 305 => 235 | 306 => 236 | 307 => 237 | 308 => 226 | 309 => 238 | 310 => 239 | 333 => 264 | 329 => 251 | 330 => 252 | 334 => 265 | 335 => 266 | 336 => 146 | 344 => 283 | n => n, fun | 31 => 24 | 9 => 9 | 3 => 3 | 46 => 43 | 0 => 0 | 51 => 205 | 53 => 182 | 4 => 4 | 183 => 199 | 182 => 198 | 131 => 123 | 5 => 5 | 218 => 228 | 222 => 132 | 228 => 248 | 229 => 55 | n => n, fun | n => n⟩
theorem Tryz.lays190 : Go.Proofs.Lays.n190 Tryz.prog Tryz.lays190_ren := {
  mixed := by kernel_rfl
  f125 := Tryz.func175.trans (congrArg some (by kernel_rfl))
  f128 := Tryz.func211.trans (congrArg some (by kernel_rfl))
  f129 := Tryz.func212.trans (congrArg some (by kernel_rfl))
  f190 := Tryz.func167.trans (congrArg some (by kernel_rfl))
  f258 := Tryz.func194.trans (congrArg some (by kernel_rfl))
  f302 := Tryz.func232.trans (congrArg some (by kernel_rfl))
  f303 := Tryz.func233.trans (congrArg some (by kernel_rfl))
  f304 := Tryz.func234.trans (congrArg some (by kernel_rfl))
  f305 := Tryz.func235.trans (congrArg some (by kernel_rfl))
  f306 := Tryz.func236.trans (congrArg some (by kernel_rfl))
  f307 := Tryz.func237.trans (congrArg some (by kernel_rfl))
  f308 := Tryz.func226.trans (congrArg some (by kernel_rfl))
  f309 := Tryz.func238.trans (congrArg some (by kernel_rfl))
  f310 := Tryz.func239.trans (congrArg some (by kernel_rfl))
  f329 := Tryz.func251.trans (congrArg some (by kernel_rfl))
  f330 := Tryz.func252.trans (congrArg some (by kernel_rfl))
  f333 := Tryz.func264.trans (congrArg some (by kernel_rfl))
  f334 := Tryz.func265.trans (congrArg some (by kernel_rfl))
  f335 := Tryz.func266.trans (congrArg some (by kernel_rfl))
  f336 := Tryz.func146.trans (congrArg some (by kernel_rfl))
  f344 := Tryz.func283.trans (congrArg some (by kernel_rfl))
  t0 := Tryz.underlying0
  a0 := Tryz.isAgg0
  z0 := Tryz.sizeOf0
  v0 := Tryz.zeroValue0
  t3 := Tryz.underlying3
  a3 := Tryz.isAgg3
  z3 := Tryz.sizeOf3
  v3 := Tryz.zeroValue3
  t4 := Tryz.underlying4
  a4 := Tryz.isAgg4
  z4 := Tryz.sizeOf4
  v4 := Tryz.zeroValue4
  t5 := Tryz.underlying5
  a5 := Tryz.isAgg5
  z5 := Tryz.sizeOf5
  v5 := Tryz.zeroValue5
  t9 := Tryz.underlying9
  a9 := Tryz.isAgg9
  z9 := Tryz.sizeOf9
  v9 := Tryz.zeroValue9
  t31 := Tryz.underlying24
  a31 := Tryz.isAgg24
  z31 := Tryz.sizeOf24
  v31 := Tryz.zeroValue24
  t46 := Tryz.underlying43
  a46 := Tryz.isAgg43
  z46 := Tryz.sizeOf43
  v46 := Tryz.zeroValue43
  t51 := Tryz.underlying205
  a51 := Tryz.isAgg205
  z51 := Tryz.sizeOf205
  v51 := Tryz.zeroValue205
  t53 := Tryz.underlying182
  a53 := Tryz.isAgg182
  z53 := Tryz.sizeOf182
  v53 := Tryz.zeroValue182
  t131 := Tryz.underlying123
  a131 := Tryz.isAgg123
  z131 := Tryz.sizeOf123
  v131 := Tryz.zeroValue123
  t182 := Tryz.underlying198
  a182 := Tryz.isAgg198
  z182 := Tryz.sizeOf198
  v182 := Tryz.zeroValue198
  t183 := Tryz.underlying199
  a183 := Tryz.isAgg199
  z183 := Tryz.sizeOf199
  v183 := Tryz.zeroValue199
  t218 := Tryz.underlying228
  a218 := Tryz.isAgg228
  z218 := Tryz.sizeOf228
  v218 := Tryz.zeroValue228
  t222 := Tryz.underlying132
  a222 := Tryz.isAgg132
  z222 := Tryz.sizeOf132
  v222 := Tryz.zeroValue132
  t228 := Tryz.underlying248
  a228 := Tryz.isAgg248
  z228 := Tryz.sizeOf248
  v228 := Tryz.zeroValue248
  t229 := Tryz.underlying55
  a229 := Tryz.isAgg55
  z229 := Tryz.sizeOf55
  v229 := Tryz.zeroValue55 }
open Go.Sort Go.RowKit in
theorem Tryz.slices_Sort_string (blk off cap : Nat) (ss : List (List UInt8)) (w : World) (hH : Holds encStr w blk off ss.toArray) (hblk : blk < w.heap.size) (hsz : ss.length < 4611686018427387904) :
    Calls Tryz.prog 167 #[.slice (some ⟨blk, off, none⟩) ss.length cap] w fun e w' =>
      e = .returned (.tuple #[]) ∧ ∃ n os, w' = grow (putRow encStr (Sort.ahead w n) blk off (ss.mergeSort fun x y => decide (x ≤ y)).toArray) os := Any.slices_Sort_string Tryz.lays190 blk off cap ss w hH hblk hsz
def Tryz.lays149_ren : Go.Shelf.Ren := ⟨fun | 149 => 70 | 222 => 129 | n => n, fun | 9 => 9 | 5 => 5 | 3 => 3 | 4 => 4 | n => n, fun | n => n⟩
theorem Tryz.lays149 : Go.Proofs.Lays.n149 Tryz.prog Tryz.lays149_ren := {
  mixed := by kernel_rfl
  f149 := Tryz.func70.trans (congrArg some (by kernel_rfl))
  f222 := Tryz.func129.trans (congrArg some (by kernel_rfl))
  t3 := Tryz.underlying3
  a3 := Tryz.isAgg3
  z3 := Tryz.sizeOf3
  v3 := Tryz.zeroValue3
  t4 := Tryz.underlying4
  a4 := Tryz.isAgg4
  z4 := Tryz.sizeOf4
  v4 := Tryz.zeroValue4
  t5 := Tryz.underlying5
  a5 := Tryz.isAgg5
  z5 := Tryz.sizeOf5
  v5 := Tryz.zeroValue5
  t9 := Tryz.underlying9
  a9 := Tryz.isAgg9
  z9 := Tryz.sizeOf9
  v9 := Tryz.zeroValue9 }
open Go.RowKit Go.Lib in
/-- strings.LastIndexByte: "LastIndexByte returns the index of the last instance of c in s, or -1 if c is not present in s." (LAID: no walk: one application.) -/
theorem Tryz.strings_LastIndexByte (s : ByteArray) (c : Int) (hs : s.size < 4611686018427387904) (w : World) :
    Calls Tryz.prog 70 #[.string s, .int .u8 c] w fun e w' => e = .returned (.int .i64 (Lib.lastIndexByte s c)) ∧ w' = w := Any.strings_LastIndexByte Tryz.lays149 s c hs w
def Tryz.lays206_ren : Go.Shelf.Ren := ⟨fun | 206 => 156 | n => n, fun | 9 => 9 | 4 => 4 | 3 => 3 | n => n, fun | n => n⟩
theorem Tryz.lays206 : Go.Proofs.Lays.n206 Tryz.prog Tryz.lays206_ren := {
  mixed := by kernel_rfl
  f206 := Tryz.func156.trans (congrArg some (by kernel_rfl))
  t3 := Tryz.underlying3
  a3 := Tryz.isAgg3
  z3 := Tryz.sizeOf3
  v3 := Tryz.zeroValue3
  t4 := Tryz.underlying4
  a4 := Tryz.isAgg4
  z4 := Tryz.sizeOf4
  v4 := Tryz.zeroValue4
  t9 := Tryz.underlying9
  a9 := Tryz.isAgg9
  z9 := Tryz.sizeOf9
  v9 := Tryz.zeroValue9 }
open Go.RowKit Go.Lib in
/-- internal/stringslite.HasPrefix (what strings.HasPrefix calls). (LAID: no walk: one application.) -/
theorem Tryz.stringslite_HasPrefix (s p : ByteArray) (w : World) :
    Calls Tryz.prog 156 #[.string s, .string p] w fun e w' => e = .returned (.bool (Lib.hasPrefix s.data.toList p.data.toList)) ∧ w' = w := Any.stringslite_HasPrefix Tryz.lays206 s p w
def Tryz.lays99_ren : Go.Shelf.Ren := ⟨fun | 99 => 107 | 206 => 156 | n => n, fun | 9 => 9 | 4 => 4 | 3 => 3 | n => n, fun | n => n⟩
theorem Tryz.lays99 : Go.Proofs.Lays.n99 Tryz.prog Tryz.lays99_ren := {
  mixed := by kernel_rfl
  f99 := Tryz.func107.trans (congrArg some (by kernel_rfl))
  f206 := Tryz.func156.trans (congrArg some (by kernel_rfl))
  t3 := Tryz.underlying3
  a3 := Tryz.isAgg3
  z3 := Tryz.sizeOf3
  v3 := Tryz.zeroValue3
  t4 := Tryz.underlying4
  a4 := Tryz.isAgg4
  z4 := Tryz.sizeOf4
  v4 := Tryz.zeroValue4
  t9 := Tryz.underlying9
  a9 := Tryz.isAgg9
  z9 := Tryz.sizeOf9
  v9 := Tryz.zeroValue9 }
open Go.RowKit Go.Lib in
/-- strings.HasPrefix: "HasPrefix reports whether the string s begins with prefix.": IT RETURNS 'Lib.hasPrefix s prefix'; the world is as it was. (LAID: no walk: one application.) -/
theorem Tryz.strings_HasPrefix (s p : ByteArray) (w : World) :
    Calls Tryz.prog 107 #[.string s, .string p] w fun e w' => e = .returned (.bool (Lib.hasPrefix s.data.toList p.data.toList)) ∧ w' = w := Any.strings_HasPrefix Tryz.lays99 s p w
def Tryz.lays197_ren : Go.Shelf.Ren := ⟨fun | 197 => 159 | 260 => 186 | n => n, fun | 9 => 9 | 21 => 21 | 3 => 3 | 4 => 4 | 5 => 5 | 105 => 164 | 119 => 157 | 0 => 0 | 46 => 43 | 139 => 160 | 138 => 159 | n => n, fun | 3 => 0 | 4 => 1 | n => n⟩
theorem Tryz.lays197 : Go.Proofs.Lays.n197 Tryz.prog Tryz.lays197_ren := {
  mixed := by kernel_rfl
  f197 := Tryz.func159.trans (congrArg some (by kernel_rfl))
  f260 := Tryz.func186.trans (congrArg some (by kernel_rfl))
  t0 := Tryz.underlying0
  a0 := Tryz.isAgg0
  z0 := Tryz.sizeOf0
  v0 := Tryz.zeroValue0
  t3 := Tryz.underlying3
  a3 := Tryz.isAgg3
  z3 := Tryz.sizeOf3
  v3 := Tryz.zeroValue3
  t4 := Tryz.underlying4
  a4 := Tryz.isAgg4
  z4 := Tryz.sizeOf4
  v4 := Tryz.zeroValue4
  t5 := Tryz.underlying5
  a5 := Tryz.isAgg5
  z5 := Tryz.sizeOf5
  v5 := Tryz.zeroValue5
  t9 := Tryz.underlying9
  a9 := Tryz.isAgg9
  z9 := Tryz.sizeOf9
  v9 := Tryz.zeroValue9
  t21 := Tryz.underlying21
  a21 := Tryz.isAgg21
  z21 := Tryz.sizeOf21
  v21 := Tryz.zeroValue21
  t46 := Tryz.underlying43
  a46 := Tryz.isAgg43
  z46 := Tryz.sizeOf43
  v46 := Tryz.zeroValue43
  t105 := Tryz.underlying164
  a105 := Tryz.isAgg164
  z105 := Tryz.sizeOf164
  v105 := Tryz.zeroValue164
  t119 := Tryz.underlying157
  a119 := Tryz.isAgg157
  z119 := Tryz.sizeOf157
  t138 := Tryz.underlying159
  a138 := Tryz.isAgg159
  z138 := Tryz.sizeOf159
  v138 := Tryz.zeroValue159
  t139 := Tryz.underlying160
  a139 := Tryz.isAgg160
  z139 := Tryz.sizeOf160
  v139 := Tryz.zeroValue160
  g3 := by kernel_rfl
  g4 := by kernel_rfl }
open Go.RowKit Go.Lib in
/-- **unicode/utf8.DecodeRuneInString AT EVERY STRING.** (LAID: no walk: one application.) -/
theorem Tryz.utf8_DecodeRuneInString (s : ByteArray) (w : World) (hT : Lib.Utf8Tabs 0 1 w) :
    Calls Tryz.prog 159 #[.string s] w fun e w' => e = .returned (.tuple #[.int .i32 (Lib.decodeGo s).1, .int .i64 (Lib.decodeGo s).2]) ∧ Below w.heap.size w w' := Any.utf8_DecodeRuneInString Tryz.lays197 s w hT
def Tryz.lays194_ren : Go.Shelf.Ren := ⟨fun | 194 => 168 | n => n, fun | 31 => 24 | 9 => 9 | 3 => 3 | 4 => 4 | 0 => 0 | n => n, fun | n => n⟩
theorem Tryz.lays194 : Go.Proofs.Lays.n194 Tryz.prog Tryz.lays194_ren := {
  mixed := by kernel_rfl
  f194 := Tryz.func168.trans (congrArg some (by kernel_rfl))
  t0 := Tryz.underlying0
  a0 := Tryz.isAgg0
  z0 := Tryz.sizeOf0
  v0 := Tryz.zeroValue0
  t3 := Tryz.underlying3
  a3 := Tryz.isAgg3
  z3 := Tryz.sizeOf3
  v3 := Tryz.zeroValue3
  t4 := Tryz.underlying4
  a4 := Tryz.isAgg4
  z4 := Tryz.sizeOf4
  v4 := Tryz.zeroValue4
  t9 := Tryz.underlying9
  a9 := Tryz.isAgg9
  z9 := Tryz.sizeOf9
  v9 := Tryz.zeroValue9
  t31 := Tryz.underlying24
  a31 := Tryz.isAgg24
  z31 := Tryz.sizeOf24
  v31 := Tryz.zeroValue24 }
open Go.RowKit Go.Lib Go.Sort in
/-- slices.Compact at []string: "Compact replaces consecutive runs of equal elements with a single copy. This is like the uniq command found on Unix. Compact modifies the contents of the slice s and returns the modified slice, which may have a smaller length. Compact zeroes the elements between the new length and the original length. The result preserves the nilness of s.": IT RETURNS THE SLICE CUT TO 'Lib.compact zs'; ITS CELLS HOLD 'Lib.compact zs', THEN ZERO VALUES up to the old length; all else is as it was, but for the count of draws. IN THE WORDS OF slices.Sort's CONTRACT ('Holds', 'putRow'): so the everyday 'slices.Sort(xs); xs = slices.Compact(xs)' goes from the one contract to the other. It asks 'zs.length ≤ cap' (every slice's: the reslicing 's[:k]' looks at it). Length 0, nil: '.._empty'. (LAID: no walk: one application.) -/
theorem Tryz.slices_Compact_string (blk off cap : Nat) (zs : List (List UInt8)) (w : World) (hH : Holds encStr w blk off zs.toArray) (hsz : zs.length ≤ 9223372036854775807) (hcap : zs.length ≤ cap) :
    Calls Tryz.prog 168 #[.slice (some ⟨blk, off, none⟩) zs.length cap] w fun e w' => e = .returned (.slice (some ⟨blk, off, none⟩) (Lib.compact zs).length cap) ∧ ∃ q, w' = putRow encStr (Sort.ahead w q) blk off (Lib.compact zs ++ List.replicate (zs.length - (Lib.compact zs).length) []).toArray := Any.slices_Compact_string Tryz.lays194 blk off cap zs w hH hsz hcap
open Go.RowKit Go.Lib Go.Sort in
/-- The same at a slice of length 0, a nil one too: it comes back as it is. (LAID: no walk: one application.) -/
theorem Tryz.slices_Compact_string_empty (a : Option Addr) (cap : Nat) (w : World) :
    Calls Tryz.prog 168 #[.slice a 0 cap] w fun e w' => e = .returned (.slice a 0 cap) ∧ w' = w := Any.slices_Compact_string_empty Tryz.lays194 a cap w
def Tryz.laysValid_ren : Go.Shelf.Ren := ⟨fun | 196 => 102 | 259 => 151 | n => n, fun | 9 => 9 | 4 => 4 | 3 => 3 | 5 => 5 | 12 => 12 | 119 => 157 | 0 => 0 | 46 => 43 | 139 => 160 | 138 => 159 | 53 => 182 | n => n, fun | 3 => 0 | 4 => 1 | n => n⟩
theorem Tryz.laysValid : Go.Proofs.Lays.n196 Tryz.prog Tryz.laysValid_ren := {
  mixed := by kernel_rfl
  f196 := Tryz.func102.trans (congrArg some (by kernel_rfl))
  f259 := Tryz.func151.trans (congrArg some (by kernel_rfl))
  t0 := Tryz.underlying0
  a0 := Tryz.isAgg0
  z0 := Tryz.sizeOf0
  v0 := Tryz.zeroValue0
  t3 := Tryz.underlying3
  a3 := Tryz.isAgg3
  z3 := Tryz.sizeOf3
  v3 := Tryz.zeroValue3
  t4 := Tryz.underlying4
  a4 := Tryz.isAgg4
  z4 := Tryz.sizeOf4
  v4 := Tryz.zeroValue4
  t5 := Tryz.underlying5
  a5 := Tryz.isAgg5
  z5 := Tryz.sizeOf5
  v5 := Tryz.zeroValue5
  t9 := Tryz.underlying9
  a9 := Tryz.isAgg9
  z9 := Tryz.sizeOf9
  v9 := Tryz.zeroValue9
  t12 := Tryz.underlying12
  a12 := Tryz.isAgg12
  z12 := Tryz.sizeOf12
  v12 := Tryz.zeroValue12
  t46 := Tryz.underlying43
  a46 := Tryz.isAgg43
  z46 := Tryz.sizeOf43
  v46 := Tryz.zeroValue43
  t53 := Tryz.underlying182
  a53 := Tryz.isAgg182
  z53 := Tryz.sizeOf182
  v53 := Tryz.zeroValue182
  t119 := Tryz.underlying157
  a119 := Tryz.isAgg157
  z119 := Tryz.sizeOf157
  t138 := Tryz.underlying159
  a138 := Tryz.isAgg159
  z138 := Tryz.sizeOf159
  v138 := Tryz.zeroValue159
  t139 := Tryz.underlying160
  a139 := Tryz.isAgg160
  z139 := Tryz.sizeOf160
  v139 := Tryz.zeroValue160
  g3 := by kernel_rfl
  g4 := by kernel_rfl }
open Go.RowKit Go.Lib in
/-- unicode/utf8.ValidString -/
theorem Tryz.utf8_ValidString (s : ByteArray) (w : World) (hs : s.size ≤ 9223372036854775807) (hT : Lib.Utf8Tabs (Tryz.laysValid_ren.g 3) (Tryz.laysValid_ren.g 4) w) :
    Calls Tryz.prog 102 #[.string s] w fun e w' => e = .returned (.bool (Lib.validD s.data.toList)) ∧ Below w.heap.size w w' := Any.utf8_ValidString Tryz.laysValid s w hs hT

end Go.Proofs

namespace Go.Proofs.YtcnjpcadejcenaaGreatDoor
open Go Go.Eng Go.Num
set_option maxRecDepth 100000
abbrev u64 (n : Nat) : Value := .int .u64 (n : Int)
abbrev U8 : TypeId := 5
theorem bytes_ext (w : World) (e : TypeId) (s : ByteArray) : Ext w (Lib.bytesWorld w e s) :=
  ⟨rfl, rfl, rfl, by rw [Lib.bytesWorld_size]; omega, fun k hk _ => Lib.bytesWorld_at_old w e s k hk⟩
/-- []byte(s) -/
theorem to_bytes {l : Str} {w : World} {src dst : TypeId} {K : Value → World → Prop} (hs : Tryz.prog.underlying src = some .string) (hd : Tryz.prog.underlying dst = some (.slice U8)) (he : Tryz.prog.underlying U8 = some (.int .u8))
    (hK : ∀ v w', Byt w' U8 v l → Ext w w' → K v w') : semE Tryz.prog (convert src dst (str l)) w K := by
  unfold semE
  rw [Lib.run_convert_string_bytes w src dst U8 (ofL l) hs hd he]
  refine hK _ _ ?_ (bytes_ext _ _ _)
  have hle : (ofL l).size ≤ grownCap w (ofL l).size 0 U8 := by
    exact grownCap_ge w (ofL l).size 0 U8
  refine ⟨some ⟨w.heap.size, 0, none⟩, grownCap w (ofL l).size 0 U8, by rw [ofL_size], by rw [← ofL_size]; exact hle, (fun e => by cases e), fun _ => ⟨w.heap.size, 0, _, _, rfl, Lib.bytesWorld_at_new w U8 (ofL l), fun i hi => ?_⟩⟩
  have hi : i < (ofL l).size := by rw [ofL_size]; simpa [u8s_length] using hi
  have := Lib.bytesWorld_cell w U8 (ofL l) i hi
  rw [cell_eq, Lib.bytesWorld_at_new, cellO_some] at this
  rw [Nat.zero_add, this, u8s_get, ofL_data]
  have hi' : i < l.length := by rw [ofL_size] at hi; exact hi
  simp [List.getD_eq_getElem?_getD, List.getElem?_eq_getElem hi']

theorem of_calls [HX] {g : FuncId} {args : Array Value} {w : World} {K : Value → World → Prop} (hr : ∀ (ar : Array Value) (w : World), (callFunc g ar).run Tryz.prog w = .ok (.enter g ar) w)
    (h : Calls Tryz.prog g args w fun e w' => ∃ v, e = .returned v ∧ K v w') : callF Tryz.prog g args.toList w K := by
  unfold callF
  rw [show args.toList.toArray = args from by simp, hr]
  refine h.mono ?_
  rintro e w' ⟨v, rfl, hk⟩
  exact hk
section
variable [HX]

theorem nan_ref {x : Value} {w : World} {K : Value → World → Prop} (h : ∀ KK : Value → Prop, KK (.bool false) → binW .neq x x KK) (hK : K (.bool false) w) : (binW .neq x x fun t => K t w) := h _ hK
theorem nan_i (n : Int) (KK : Value → Prop) (h : KK (.bool false)) : binW .neq (i64 n) (i64 n) KK := by rw [bin_neq]; simpa using h
theorem nan_u (n : Nat) (KK : Value → Prop) (h : KK (.bool false)) : binW .neq (u64 n) (u64 n) KK := by rw [bin_neq]; simpa using h
theorem nan_s (s : Str) (KK : Value → Prop) (h : KK (.bool false)) : binW .neq (str s) (str s) KK := by rw [bin_sne]; simpa using h
theorem isnan_k {n : Int} {w : World} {K : Value → World → Prop} (hK : K (.bool false) w) : callF Tryz.prog 267 [i64 n] w K := by
  refine W267_ok ?_
  exact nan_i n _ hK
theorem isnan_i {n : Int} {w : World} {K : Value → World → Prop} (hK : K (.bool false) w) : callF Tryz.prog 147 [i64 n] w K := by
  refine W147_ok ?_
  exact nan_i n _ hK
theorem isnan_u {n : Nat} {w : World} {K : Value → World → Prop} (hK : K (.bool false) w) : callF Tryz.prog 295 [u64 n] w K := by
  refine W295_ok ?_
  exact nan_u n _ hK
theorem isnan_s {s : Str} {w : World} {K : Value → World → Prop} (hK : K (.bool false) w) : callF Tryz.prog 146 [str s] w K := by
  refine W146_ok ?_
  exact nan_s s _ hK
theorem isnan_s2 {s : Str} {w : World} {K : Value → World → Prop} (hK : K (.bool false) w) : callF Tryz.prog 227 [str s] w K := by
  refine W227_ok ?_
  exact nan_s s _ hK
theorem cmpI_K {a b : Int} {w : World} {K : Value → World → Prop} (hK : K (i64 (cmpI a b)) w) : (a < b → K (i64 (-1)) w) ∧ (¬ a < b → (b < a → K (i64 1) w) ∧ (¬ b < a → K (i64 0) w)) := by
  unfold cmpI at hK
  refine ⟨fun h => ?_, fun h => ⟨fun h2 => ?_, fun h2 => ?_⟩⟩
  · rw [if_pos h] at hK; exact hK
  · rw [if_neg h, if_pos h2] at hK; exact hK
  · rw [if_neg h, if_neg h2] at hK; exact hK
theorem cmp_k {a b : Int} {w : World} {K : Value → World → Prop} (hK : K (i64 (cmpI a b)) w) : callF Tryz.prog 240 [i64 a, i64 b] w K := by
  refine W240_ok ?_
  unfold W240
  refine isnan_k (isnan_k ?_)
  simp only [wsv, wsg, wsh, wsl, cond_true, cond_false, exists_eq_left', Option.some.injEq, Option.isSome_some, List.getElem?_toArray, List.getElem?_cons_zero, List.getElem?_cons_succ, List.length_cons, List.length_nil, List.set_cons_zero, List.set_cons_succ, List.getD_cons_zero, List.getD_cons_succ, Nat.zero_add, Nat.add_zero, Nat.reduceAdd, Nat.reduceLT, Nat.lt_add_one, Nat.zero_lt_succ, decide_true, decide_false, ne_eq, reduceCtorEq, condW_dec]
  exact cmpI_K hK
theorem cmp_i {a b : Int} {w : World} {K : Value → World → Prop} (hK : K (i64 (cmpI a b)) w) : callF Tryz.prog 93 [i64 a, i64 b] w K := by
  refine W93_ok ?_
  unfold W93
  refine isnan_i (isnan_i ?_)
  simp only [wsv, wsg, wsh, wsl, cond_true, cond_false, exists_eq_left', Option.some.injEq, Option.isSome_some, List.getElem?_toArray, List.getElem?_cons_zero, List.getElem?_cons_succ, List.length_cons, List.length_nil, List.set_cons_zero, List.set_cons_succ, List.getD_cons_zero, List.getD_cons_succ, Nat.zero_add, Nat.add_zero, Nat.reduceAdd, Nat.reduceLT, Nat.lt_add_one, Nat.zero_lt_succ, decide_true, decide_false, ne_eq, reduceCtorEq, condW_dec]
  exact cmpI_K hK
theorem cmp_u {a b : Nat} {w : World} {K : Value → World → Prop} (hK : K (i64 (cmpN a b)) w) : callF Tryz.prog 293 [u64 a, u64 b] w K := by
  refine W293_ok ?_
  unfold W293
  refine isnan_u (isnan_u ?_)
  simp only [wsv, wsg, wsh, wsl, cond_true, cond_false, exists_eq_left', Option.some.injEq, Option.isSome_some, List.getElem?_toArray, List.getElem?_cons_zero, List.getElem?_cons_succ, List.length_cons, List.length_nil, List.set_cons_zero, List.set_cons_succ, List.getD_cons_zero, List.getD_cons_succ, Nat.zero_add, Nat.add_zero, Nat.reduceAdd, Nat.reduceLT, Nat.lt_add_one, Nat.zero_lt_succ, decide_true, decide_false, ne_eq, reduceCtorEq, condW_dec]
  have e : cmpN a b = cmpI a b := by unfold cmpN cmpI; simp only [Int.ofNat_lt]
  rw [e] at hK
  exact cmpI_K hK
theorem less_total {a b : Str} (h1 : Op.bytesLess a b = false) (h2 : (!(Op.bytesLess a b || decide (a = b))) = false) : a = b := by
  rw [h1] at h2; simpa using h2
theorem cmp_s {a b : Str} {w : World} {K : Value → World → Prop} (hK : K (i64 (cmpB a b)) w) : callF Tryz.prog 92 [str a, str b] w K := by
  refine W92_ok ?_
  unfold W92
  refine isnan_s (isnan_s ?_)
  simp only [wsv, wsg, wsh, wsl, cond_true, cond_false, exists_eq_left', Option.some.injEq, Option.isSome_some, List.getElem?_toArray, List.getElem?_cons_zero, List.getElem?_cons_succ, List.length_cons, List.length_nil, List.set_cons_zero, List.set_cons_succ, List.getD_cons_zero, List.getD_cons_succ, Nat.zero_add, Nat.add_zero, Nat.reduceAdd, Nat.reduceLT, Nat.lt_add_one, Nat.zero_lt_succ, decide_true, decide_false, ne_eq, reduceCtorEq]
  simp only [condW_b]
  unfold cmpB at hK
  refine ⟨fun h => ?_, fun h => ⟨fun h2 => ?_, fun h2 => ?_⟩⟩
  · rw [if_pos h] at hK; exact hK
  · have hne : a ≠ b := by rintro rfl; simp at h2
    rw [if_neg (by rw [h]; simp), if_neg hne] at hK; exact hK
  · rw [if_neg (by rw [h]; simp), if_pos (less_total h h2)] at hK; exact hK
theorem cmp_less {a b : Str} {w : World} {K : Value → World → Prop} (hK : K (.bool (Op.bytesLess a b)) w) : callF Tryz.prog 226 [str a, str b] w K := by
  refine W226_ok ?_
  unfold W226
  refine isnan_s ?_
  simp only [wsv, wsg, wsh, wsl, cond_true, cond_false, exists_eq_left', Option.some.injEq, Option.isSome_some, List.getElem?_toArray, List.getElem?_cons_zero, List.getElem?_cons_succ, List.length_cons, List.length_nil, List.set_cons_zero, List.set_cons_succ, List.getD_cons_zero, List.getD_cons_succ, Nat.zero_add, Nat.add_zero, Nat.reduceAdd, Nat.reduceLT, Nat.lt_add_one, Nat.zero_lt_succ, decide_true, decide_false, ne_eq, reduceCtorEq]
  intros
  exact hK
theorem compareBytes_eq (a b : Str) : Lib.compareBytes a b = cmpB a b := by
  induction a generalizing b with
  | nil => cases b <;> simp [Lib.compareBytes, cmpB, Op.bytesLess]
  | cons x a ih =>
    cases b with
    | nil => simp [Lib.compareBytes, cmpB, Op.bytesLess]
    | cons y b =>
      simp only [Lib.compareBytes, ih, cmpB, Op.bytesLess]
      by_cases h1 : x < y
      · simp [h1]
      · by_cases h2 : y < x
        · have : x ≠ y := by rintro rfl; exact h1 h2
          simp [h1, h2, this]
        · have : x = y := UInt8.le_antisymm (UInt8.not_lt.1 h2) (UInt8.not_lt.1 h1)
          subst this
          simp
theorem strcmp {a b : Str} {w : World} {K : Value → World → Prop} (hK : K (i64 (cmpB a b)) w) : callF Tryz.prog 243 [str a, str b] w K := by
  refine of_calls (args := #[str a, str b]) Tryz.call243 ((Tryz.strings_Compare (ofL a) (ofL b) w).mono ?_)
  rintro e w' ⟨rfl, rfl⟩
  refine ⟨_, rfl, ?_⟩
  rw [ofL_data, ofL_data]
  rw [compareBytes_eq]
  exact hK
theorem pre_ref {s p : Str} {w : World} {K : Value → World → Prop} (hs : s.length ≤ 9223372036854775807) (hK : K (.bool (p.isPrefixOf s)) w) : callF Tryz.prog 156 [str s, str p] w K := by
  refine of_calls (args := #[str s, str p]) Tryz.call156 ((Tryz.stringslite_HasPrefix (ofL s) (ofL p) w).mono ?_)
  rintro e w' ⟨rfl, rfl⟩
  refine ⟨_, rfl, ?_⟩
  rw [ofL_data, ofL_data]
  exact hK
theorem isPre_take : ∀ (p s : Str), p.isPrefixOf s = true → s = p ++ s.drop p.length
  | [], s, _ => by simp
  | c :: p, [], h => by simp [List.isPrefixOf] at h
  | c :: p, d :: s, h => by
    simp only [List.isPrefixOf, Bool.and_eq_true, beq_iff_eq] at h
    rw [h.1]
    simp only [List.length_cons, List.drop_succ_cons, List.cons_append]
    rw [← isPre_take p s h.2]
theorem trimpre_ref {a : Str} {w : World} {K : Value → World → Prop} (hs : a.length ≤ 9223372036854775807) (hK : K (str (dig a)) w) : callF Tryz.prog 184 [str a, str [45]] w K := by
  refine W184_ok ?_
  unfold W184
  refine W222_ok ?_
  unfold W222
  refine pre_ref hs ?_
  cases a with
  | nil =>
    rw [show ([45] : Str).isPrefixOf [] = false from rfl]
    simp only [wsv, wsg, wsh, wsl, cond_true, cond_false, exists_eq_left', Option.some.injEq, Option.isSome_some, List.getElem?_toArray, List.getElem?_cons_zero, List.getElem?_cons_succ, List.length_cons, List.length_nil, List.set_cons_zero, List.set_cons_succ, List.getD_cons_zero, List.getD_cons_succ, Nat.zero_add, Nat.add_zero, Nat.reduceAdd, Nat.reduceLT, Nat.lt_add_one, Nat.zero_lt_succ, decide_true, decide_false, ne_eq, reduceCtorEq]
    exact hK
  | cons c r =>
    by_cases hc : c = 45
    · subst hc
      have e : ([45] : Str).isPrefixOf (45 :: r) = true := by simp [List.isPrefixOf]
      have ed : dig (45 :: r) = r := by simp [dig]
      rw [ed] at hK
      rw [e]
      have e1 : ((0 + 1 : Nat) : Int).toNat = 1 := rfl
      simp only [wsv, wsg, wsh, wsl, cond_true, cond_false, exists_eq_left', Option.some.injEq, Option.isSome_some, List.getElem?_toArray, List.getElem?_cons_zero, List.getElem?_cons_succ, List.length_cons, List.length_nil, List.set_cons_zero, List.set_cons_succ, List.getD_cons_zero, List.getD_cons_succ, Nat.zero_add, Nat.add_zero, Nat.reduceAdd, Nat.reduceLT, Nat.lt_add_one, Nat.zero_lt_succ, decide_true, decide_false, ne_eq, reduceCtorEq, e1]
      refine ⟨by omega, by omega, ?_⟩
      rw [← List.length_cons (a := (45 : UInt8)), List.take_length]
      exact hK
    · have e : ([45] : Str).isPrefixOf (c :: r) = false := by simp [List.isPrefixOf, Ne.symm hc]
      have ed : dig (c :: r) = c :: r := by simp [dig, hc]
      rw [ed] at hK
      rw [e]
      simp only [wsv, wsg, wsh, wsl, cond_true, cond_false, exists_eq_left', Option.some.injEq, Option.isSome_some, List.getElem?_toArray, List.getElem?_cons_zero, List.getElem?_cons_succ, List.length_cons, List.length_nil, List.set_cons_zero, List.set_cons_succ, List.getD_cons_zero, List.getD_cons_succ, Nat.zero_add, Nat.add_zero, Nat.reduceAdd, Nat.reduceLT, Nat.lt_add_one, Nat.zero_lt_succ, decide_true, decide_false, ne_eq, reduceCtorEq]
      exact hK
theorem cutpre_ref {a : Str} {w : World} {K : Value → World → Prop} (hs : a.length ≤ 9223372036854775807) (hK : K (.tuple #[str (dig a), .bool (neg a)]) w) : callF Tryz.prog 288 [str a, str [45]] w K := by
  refine W288_ok ?_
  unfold W288
  refine W294_ok ?_
  unfold W294
  refine pre_ref hs ?_
  cases a with
  | nil =>
    rw [show ([45] : Str).isPrefixOf [] = false from rfl]
    simp only [wsv, wsg, wsh, wsl, cond_true, cond_false, exists_eq_left', Option.some.injEq, Option.isSome_some, List.getElem?_toArray, List.getElem?_cons_zero, List.getElem?_cons_succ, List.length_cons, List.length_nil, List.set_cons_zero, List.set_cons_succ, List.getD_cons_zero, List.getD_cons_succ, Nat.zero_add, Nat.add_zero, Nat.reduceAdd, Nat.reduceLT, Nat.lt_add_one, Nat.zero_lt_succ, decide_true, decide_false, ne_eq, reduceCtorEq]
    exact hK
  | cons c r =>
    by_cases hc : c = 45
    · subst hc
      have e : ([45] : Str).isPrefixOf (45 :: r) = true := by simp [List.isPrefixOf]
      have ed : dig (45 :: r) = r := by simp [dig]
      have en : neg (45 :: r) = true := by simp [neg]
      rw [ed, en] at hK
      rw [e]
      have e1 : ((0 + 1 : Nat) : Int).toNat = 1 := rfl
      simp only [wsv, wsg, wsh, wsl, cond_true, cond_false, exists_eq_left', Option.some.injEq, Option.isSome_some, List.getElem?_toArray, List.getElem?_cons_zero, List.getElem?_cons_succ, List.length_cons, List.length_nil, List.set_cons_zero, List.set_cons_succ, List.getD_cons_zero, List.getD_cons_succ, Nat.zero_add, Nat.add_zero, Nat.reduceAdd, Nat.reduceLT, Nat.lt_add_one, Nat.zero_lt_succ, decide_true, decide_false, ne_eq, reduceCtorEq, e1]
      refine ⟨by omega, by omega, ?_⟩
      rw [← List.length_cons (a := (45 : UInt8)), List.take_length]
      exact hK
    · have e : ([45] : Str).isPrefixOf (c :: r) = false := by simp [List.isPrefixOf, Ne.symm hc]
      have ed : dig (c :: r) = c :: r := by simp [dig, hc]
      have en : neg (c :: r) = false := by simp [neg, hc]
      rw [ed, en] at hK
      rw [e]
      simp only [wsv, wsg, wsh, wsl, cond_true, cond_false, exists_eq_left', Option.some.injEq, Option.isSome_some, List.getElem?_toArray, List.getElem?_cons_zero, List.getElem?_cons_succ, List.length_cons, List.length_nil, List.set_cons_zero, List.set_cons_succ, List.getD_cons_zero, List.getD_cons_succ, Nat.zero_add, Nat.add_zero, Nat.reduceAdd, Nat.reduceLT, Nat.lt_add_one, Nat.zero_lt_succ, decide_true, decide_false, ne_eq, reduceCtorEq]
      exact hK
theorem numgood_ref {a : Str} {w : World} {K : Value → World → Prop} (ha : a.length ≤ 9223372036854775807) (hK : ∀ w', Ext w w' → K (.bool (goodN a)) w') : callF Tryz.prog 148 [str a] w K := by
  refine W148_ok ?_
  unfold W148
  refine trimpre_ref ha ?_
  have hg : goodN a = (!decide ((dig a).length < 1) && !decide (100 < (dig a).length) && !((dig a).head? == some 48 && !decide (a = [48])) && (dig a).all Num.isDig) := by
    unfold goodN
    have e1 : decide (1 ≤ (dig a).length) = !decide ((dig a).length < 1) := by rw [← decide_not]; exact decide_eq_decide.2 (by omega)
    have e2 : decide ((dig a).length ≤ 100) = !decide (100 < (dig a).length) := by rw [← decide_not]; exact decide_eq_decide.2 (by omega)
    rw [e1, e2]
    cases ((dig a).head? == some 48) <;> cases decide (a = [48]) <;> simp
  rw [hg] at hK
  have hdl : (dig a).length ≤ a.length := by
    cases a with
    | nil => simp [dig]
    | cons c r => simp only [dig]; split <;> simp
  cases hd : dig a with
  | nil =>
    rw [hd] at hK
    have hz : decide (((0 : Nat) : Int) < 1) = true := by decide
    simp only [wsv, wsg, wsh, wsl, cond_true, cond_false, exists_eq_left', Option.some.injEq, Option.isSome_some, List.getElem?_toArray, List.getElem?_cons_zero, List.getElem?_cons_succ, List.length_cons, List.length_nil, List.set_cons_zero, List.set_cons_succ, List.getD_cons_zero, List.getD_cons_succ, Nat.zero_add, Nat.add_zero, Nat.reduceAdd, Nat.reduceLT, Nat.lt_add_one, Nat.zero_lt_succ, decide_true, decide_false, ne_eq, reduceCtorEq, hz]
    intros
    exact hK _ (Chg.refl _ _)
  | cons c r =>
    rw [hd] at hK hdl
    have hz : decide (((r.length + 1 : Nat) : Int) < 1) = false := decide_eq_false (by omega)
    simp only [wsv, wsg, wsh, wsl, cond_true, cond_false, exists_eq_left', Option.some.injEq, Option.isSome_some, List.getElem?_toArray, List.getElem?_cons_zero, List.getElem?_cons_succ, List.length_cons, List.length_nil, List.set_cons_zero, List.set_cons_succ, List.getD_cons_zero, List.getD_cons_succ, Nat.zero_add, Nat.add_zero, Nat.reduceAdd, Nat.reduceLT, Nat.lt_add_one, Nat.zero_lt_succ, decide_true, decide_false, ne_eq, reduceCtorEq, Int.le_refl, Int.toNat_zero, u8_is c 48 48 rfl, hz]
    intros
    rw [condW_b]
    have e1 : decide ((100 : Int) < ((r.length + 1 : Nat) : Int)) = decide (100 < (c :: r).length) := decide_eq_decide.2 (by simp only [List.length_cons]; omega)
    have e4 : decide ((c :: r).length < 1) = false := decide_eq_false (by simp)
    have e5 : ((c :: r).head? == some 48) = (c == 48) := by simp
    rw [e1]
    rw [e4, e5] at hK
    simp only [decide_not]
    generalize decide (100 < (c :: r).length) = b1 at *
    generalize ((c == 48) && !decide (a = [48])) = b2 at *
    refine ⟨fun h => ?_, fun h => ?_⟩
    · have := hK _ (Chg.refl _ _)
      have e : (!false && !b1 && !b2 && (c :: r).all Num.isDig) = false := by
        cases b1 <;> cases b2 <;> simp at h ⊢
      rw [e] at this
      exact this
    · have hb : b1 = false ∧ b2 = false := by simpa using h
      rw [hb.1, hb.2] at hK
      refine to_bytes (l := c :: r) (by kernel_rfl) (by kernel_rfl) (by kernel_rfl) fun v w1 hv hx1 => ?_
      rw [lenl_at hv]
      generalize c :: r = D at *
      refine loop_up D.length (fun i w2 => Ext w1 w2 ∧ (D.take i).all Num.isDig = true) ⟨Chg.refl _ _, rfl⟩ ?_ ?_
      · rintro i w2 g L hi ⟨hx2, hall⟩ hL
        obtain ⟨e, he⟩ : ∃ e, D[i]? = some e := ⟨_, List.getElem?_eq_getElem hi⟩
        have hlt : ((i : Int) < ((D.length : Nat) : Int)) := by omega
        simp only [wsv, wsg, wsh, wsl, cond_true, cond_false, exists_eq_left', Option.some.injEq, Option.isSome_some, List.getElem?_toArray, List.getElem?_cons_zero, List.getElem?_cons_succ, List.length_cons, List.length_nil, List.set_cons_zero, List.set_cons_succ, List.getD_cons_zero, List.getD_cons_succ, Nat.zero_add, Nat.add_zero, Nat.reduceAdd, Nat.reduceLT, Nat.lt_add_one, Nat.zero_lt_succ, decide_true, decide_false, ne_eq, reduceCtorEq, hlt]
        refine ixa_ld (hv.ext hx2) (by rw [u8s_length]) (by rw [u8s_get, he]; rfl) ?_
        simp only [wsv, wsg, wsh, wsl, cond_true, cond_false, exists_eq_left', Option.some.injEq, Option.isSome_some, List.getElem?_toArray, List.getElem?_cons_zero, List.getElem?_cons_succ, List.length_cons, List.length_nil, List.set_cons_zero, List.set_cons_succ, List.getD_cons_zero, List.getD_cons_succ, Nat.zero_add, Nat.add_zero, Nat.reduceAdd, Nat.reduceLT, Nat.lt_add_one, Nat.zero_lt_succ, decide_true, decide_false, ne_eq, reduceCtorEq, isDig_out]
        intros
        rw [condW_b]
        refine ⟨fun hf => ?_, fun ht => ?_⟩
        · have hf : Num.isDig e = false := by simpa using hf
          have := hK _ (hx1.trans hx2)
          rw [all_no he hf] at this
          exact this
        · have ht : Num.isDig e = true := by simpa using ht
          rw [up1 (by omega)]
          exact hL _ ⟨hx2, by rw [all_take he, hall, ht]; rfl⟩
      · rintro w2 g L ⟨hx2, hall⟩
        simp only [wsv, wsg, wsh, wsl, cond_true, cond_false, exists_eq_left', Option.some.injEq, Option.isSome_some, List.getElem?_toArray, List.getElem?_cons_zero, List.getElem?_cons_succ, List.length_cons, List.length_nil, List.set_cons_zero, List.set_cons_succ, List.getD_cons_zero, List.getD_cons_succ, Nat.zero_add, Nat.add_zero, Nat.reduceAdd, Nat.reduceLT, Nat.lt_add_one, Nat.zero_lt_succ, decide_true, decide_false, ne_eq, reduceCtorEq, Int.lt_irrefl]
        rw [List.take_length] at hall
        have := hK w2 (hx1.trans hx2)
        rw [hall] at this
        exact this
end
end Go.Proofs.YtcnjpcadejcenaaGreatDoor

namespace Go.Proofs
open Go.RowKit Go.Lib Go.Shelf
abbrev BdT : TypeId := 78
set_option maxHeartbeats 1000000 in
set_option maxRecDepth 100000 in
theorem Tryz.check_used (b : Nat) (w : World) (h0 : w.cell? ⟨b, 0, none⟩ = some (.pointer (some ⟨b, 0, none⟩))) :
    Calls Tryz.prog 137 #[.pointer (some ⟨b, 0, none⟩)] w fun e w' => e = .returned (.tuple #[]) ∧ w' = w := by
  obtain ⟨j, hj, _⟩ := Option.map_eq_some_iff.1 (show (Tryz.prog.info? 78).map (·.size) = some 2 by kernel_rfl)
  go_enter Tryz.func137, Tryz.ntmps137
  go_wp2
  rw [Lib.run_neq_ptr_same w _ Tryz.underlying76 hj]
  go_wp2
  go_end0
  exact ⟨rfl, rfl⟩
set_option maxHeartbeats 1000000 in
set_option maxRecDepth 100000 in
theorem Tryz.check_fresh (b : Nat) (w : World) (h0 : w.cell? ⟨b, 0, none⟩ = some (.pointer none)) (hsh : w.shape? b = some (78, 2)) (hfz : w.frozen? ⟨b, 0, none⟩ = false) :
    Calls Tryz.prog 137 #[.pointer (some ⟨b, 0, none⟩)] w fun e w' => e = .returned (.tuple #[]) ∧ w' = w.setCell ⟨b, 0, none⟩ (.pointer (some ⟨b, 0, none⟩)) := by
  obtain ⟨j, hj, hjs⟩ := Option.map_eq_some_iff.1 (show (Tryz.prog.info? 78).map (·.size) = some 2 by kernel_rfl)
  go_enter Tryz.func137, Tryz.ntmps137
  go_wp2
  rw [Lib.run_to_unsafe w ⟨b, 0, none⟩ Tryz.underlying76 Tryz.underlying177 hj (by rw [hjs]; decide) hsh (Nat.zero_lt_succ 1)]
  simp only [Result.andThen]
  rw [Oper.upon_value]
  go_wp2
  rw [run_callFunc_extern Tryz.func176 (by kernel_rfl) (by kernel_rfl) (by kernel_rfl) (e := Extern.AbiNoEscape.same) (by kernel_rfl)]
  rw [Lib.run_noEscape]
  simp only [Result.andThen]
  rw [Oper.upon_value]
  go_wp2
  rw [Lib.run_from_unsafe w ⟨b, 0, none⟩ Tryz.underlying177 Tryz.underlying76 hj hsh (show liesAt Tryz.prog Tryz.prog.depth 78 (2 / Tryz.prog.cellsOf 78) 0 78 1 = true by kernel_rfl)]
  simp only [Result.andThen]
  rw [Oper.upon_value]
  go_wp2
  go_end0
  exact ⟨rfl, rfl⟩
end Go.Proofs

namespace Go.Proofs.YtcnjpcadejcenaaGreatDoor
open Go Go.Eng
set_option maxRecDepth 100000
variable [HX]

/- __strings.Builder_.WriteString -/
def plan78 : Plan := { js := [], ds := [] }
def W78 (v0 v1 : Value) (w : World) (K : Value → World → Prop) : Prop :=
  callF Tryz.prog 137 [v0] w fun t7 w1 =>
  nilW v0 fun t10 =>
  fldW 1 t10 fun t11 =>
  ldW false 1 t11 w1 fun t12 =>
  semE Tryz.prog (Builtin.append_ #[44, 9] 44 #[t12, v1]) w1 fun t14 w2 =>
  nilW v0 fun t15 =>
  fldW 1 t15 fun t16 =>
  stW 1 t16 t14 w2 fun w3 =>
  lensW v1 fun t18 =>
  K (.tuple #[t18, .nilIface]) w3
theorem W78_eq (v0 v1 : Value) (w : World) (K : Value → World → Prop) : funW Tryz.prog Tryz.f78 plan78 [v0, v1] w K = W78 v0 v1 w K := by kernel_rfl
theorem W78_chk : chkFun Tryz.prog Tryz.f78 plan78 2 = true := by kernel_rfl
theorem W78_ok {v0 v1 : Value} {w : World} {K : Value → World → Prop} (h : W78 v0 v1 w K) : callF Tryz.prog 78 [v0, v1] w K :=
  tie Tryz.prog 78 Tryz.f78 plan78 [v0, v1] w K 2 (W78 v0 v1 w K) rfl mixed Tryz.func78 W78_chk (W78_eq v0 v1 w K) Tryz.call78 h

/- __strings.Builder_.WriteByte -/
def plan80 : Plan := { js := [], ds := [] }
def W80 (v0 v1 : Value) (w : World) (K : Value → World → Prop) : Prop :=
  callF Tryz.prog 137 [v0] w fun t6 w1 =>
  nilW v0 fun t9 =>
  fldW 1 t9 fun t10 =>
  ldW false 1 t10 w1 fun t11 =>
  bslW 5 1 [(.int .u8 0)] [(0, 1, v1)] w1 fun t13 w2 =>
  semE Tryz.prog (Builtin.append_ #[44, 44] 44 #[t11, t13]) w2 fun t14 w3 =>
  nilW v0 fun t15 =>
  fldW 1 t15 fun t16 =>
  stW 1 t16 t14 w3 fun w4 =>
  K .nilIface w4
theorem W80_eq (v0 v1 : Value) (w : World) (K : Value → World → Prop) : funW Tryz.prog Tryz.f80 plan80 [v0, v1] w K = W80 v0 v1 w K := by kernel_rfl
theorem W80_chk : chkFun Tryz.prog Tryz.f80 plan80 2 = true := by kernel_rfl
theorem W80_ok {v0 v1 : Value} {w : World} {K : Value → World → Prop} (h : W80 v0 v1 w K) : callF Tryz.prog 80 [v0, v1] w K :=
  tie Tryz.prog 80 Tryz.f80 plan80 [v0, v1] w K 2 (W80 v0 v1 w K) rfl mixed Tryz.func80 W80_chk (W80_eq v0 v1 w K) Tryz.call80 h

/- __strings.Builder_.WriteRune -/
def plan155 : Plan := { js := [], ds := [] }
def W155 (v0 v1 : Value) (w : World) (K : Value → World → Prop) : Prop :=
  callF Tryz.prog 137 [v0] w fun t8 w1 =>
  nilW v0 fun t10 =>
  fldW 1 t10 fun t11 =>
  ldW false 1 t11 w1 fun t12 =>
  lenlW t12 fun t13 =>
  nilW v0 fun t16 =>
  fldW 1 t16 fun t17 =>
  ldW false 1 t17 w1 fun t18 =>
  callF Tryz.prog 185 [t18, v1] w1 fun t20 w2 =>
  nilW v0 fun t21 =>
  fldW 1 t21 fun t22 =>
  stW 1 t22 t20 w2 fun w3 =>
  nilW v0 fun t24 =>
  fldW 1 t24 fun t25 =>
  ldW false 1 t25 w3 fun t26 =>
  lenlW t26 fun t27 =>
  binW .sub t27 t13 fun t29 =>
  K (.tuple #[t29, .nilIface]) w3
theorem W155_eq (v0 v1 : Value) (w : World) (K : Value → World → Prop) : funW Tryz.prog Tryz.f155 plan155 [v0, v1] w K = W155 v0 v1 w K := by kernel_rfl
theorem W155_chk : chkFun Tryz.prog Tryz.f155 plan155 2 = true := by kernel_rfl
theorem W155_ok {v0 v1 : Value} {w : World} {K : Value → World → Prop} (h : W155 v0 v1 w K) : callF Tryz.prog 155 [v0, v1] w K :=
  tie Tryz.prog 155 Tryz.f155 plan155 [v0, v1] w K 2 (W155 v0 v1 w K) rfl mixed Tryz.func155 W155_chk (W155_eq v0 v1 w K) Tryz.call155 h

/- unicode_utf8.AppendRune -/
def plan185 : Plan := { js := [], ds := [] }
def W185 (v0 v1 : Value) (w : World) (K : Value → World → Prop) : Prop :=
  cvtW .u32 v1 fun t6 =>
  binW .leq t6 (.int .u32 127) fun t7 =>
  condW t7 (
    cvtW .u8 v1 fun t10 =>
    bslW 5 1 [(.int .u8 0)] [(0, 1, t10)] w fun t11 w1 =>
    semE Tryz.prog (Builtin.append_ #[44, 44] 44 #[v0, t11]) w1 fun t12 w2 =>
    K t12 w2) (
    callF Tryz.prog 223 [v0, v1] w fun t15 w3 =>
    K t15 w3)
theorem W185_eq (v0 v1 : Value) (w : World) (K : Value → World → Prop) : funW Tryz.prog Tryz.f185 plan185 [v0, v1] w K = W185 v0 v1 w K := by kernel_rfl
theorem W185_chk : chkFun Tryz.prog Tryz.f185 plan185 2 = true := by kernel_rfl
theorem W185_ok {v0 v1 : Value} {w : World} {K : Value → World → Prop} (h : W185 v0 v1 w K) : callF Tryz.prog 185 [v0, v1] w K :=
  tie Tryz.prog 185 Tryz.f185 plan185 [v0, v1] w K 2 (W185 v0 v1 w K) rfl mixed Tryz.func185 W185_chk (W185_eq v0 v1 w K) Tryz.call185 h

/- unicode_utf8.appendRuneNonASCII -/
def plan223 : Plan := { js := [(22004, ⟨[55], [], 54⟩), (11, ⟨[25], [], 6⟩), (16004, ⟨[32], [], 31⟩)], ds := [] }
def W223 (v0 v1 : Value) (w : World) (K : Value → World → Prop) : Prop :=
  cvtW .u32 v1 fun t7 =>
  binW .leq t7 (.int .u32 2047) fun t13 =>
  condW t13 (
    binW .shr v1 (.int .u64 6) fun t16 =>
    cvtW .u8 t16 fun t17 =>
    binW .or (.int .u8 192) t17 fun t18 =>
    cvtW .u8 v1 fun t20 =>
    binW .and t20 (.int .u8 63) fun t21 =>
    binW .or (.int .u8 128) t21 fun t22 =>
    bslW 5 2 [(.int .u8 0), (.int .u8 0)] [(0, 1, t18), (1, 1, t22)] w fun t23 w1 =>
    semE Tryz.prog (Builtin.append_ #[44, 44] 44 #[v0, t23]) w1 fun t24 w2 =>
    K t24 w2) (
    JoinW (fun J3 =>
      binW .lss t7 (.int .u32 55296) fun t27 =>
      condW t27 (
        J3 [t27] w) (
        binW .lss (.int .u32 57343) t7 fun t29 =>
        GdW (isB t29 true) [undef] w (fun J4 =>
          binW .leq t7 (.int .u32 65535) fun t32 =>
          J4 [t32] w)
        fun s4 _ w5 =>
        pickW t29 (s4.getD 0 undef) (.bool false) fun t33 =>
        J3 [t33] w5))
    fun s3 _ w6 =>
    condW (s3.getD 0 undef) (
      binW .shr v1 (.int .u64 12) fun t36 =>
      cvtW .u8 t36 fun t37 =>
      binW .or (.int .u8 224) t37 fun t38 =>
      binW .shr v1 (.int .u64 6) fun t40 =>
      cvtW .u8 t40 fun t41 =>
      binW .and t41 (.int .u8 63) fun t42 =>
      binW .or (.int .u8 128) t42 fun t43 =>
      cvtW .u8 v1 fun t45 =>
      binW .and t45 (.int .u8 63) fun t46 =>
      binW .or (.int .u8 128) t46 fun t47 =>
      bslW 5 3 [(.int .u8 0), (.int .u8 0), (.int .u8 0)] [(0, 1, t38), (1, 1, t43), (2, 1, t47)] w6 fun t48 w7 =>
      semE Tryz.prog (Builtin.append_ #[44, 44] 44 #[v0, t48]) w7 fun t49 w8 =>
      K t49 w8) (
      binW .gtr t7 (.int .u32 65535) fun t52 =>
      GdW (isB t52 true) [undef] w6 (fun J9 =>
        binW .leq t7 (.int .u32 1114111) fun t55 =>
        J9 [t55] w6)
      fun s9 _ w10 =>
      pickW t52 (s9.getD 0 undef) (.bool false) fun t56 =>
      condW t56 (
        binW .shr v1 (.int .u64 18) fun t59 =>
        cvtW .u8 t59 fun t60 =>
        binW .or (.int .u8 240) t60 fun t61 =>
        binW .shr v1 (.int .u64 12) fun t63 =>
        cvtW .u8 t63 fun t64 =>
        binW .and t64 (.int .u8 63) fun t65 =>
        binW .or (.int .u8 128) t65 fun t66 =>
        binW .shr v1 (.int .u64 6) fun t68 =>
        cvtW .u8 t68 fun t69 =>
        binW .and t69 (.int .u8 63) fun t70 =>
        binW .or (.int .u8 128) t70 fun t71 =>
        cvtW .u8 v1 fun t73 =>
        binW .and t73 (.int .u8 63) fun t74 =>
        binW .or (.int .u8 128) t74 fun t75 =>
        bslW 5 4 [(.int .u8 0), (.int .u8 0), (.int .u8 0), (.int .u8 0)] [(0, 1, t61), (1, 1, t66), (2, 1, t71), (3, 1, t75)] w10 fun t76 w11 =>
        semE Tryz.prog (Builtin.append_ #[44, 44] 44 #[v0, t76]) w11 fun t77 w12 =>
        K t77 w12) (
        bslW 5 3 [(.int .u8 0), (.int .u8 0), (.int .u8 0)] [(0, 1, (.int .u8 239)), (1, 1, (.int .u8 191)), (2, 1, (.int .u8 189))] w10 fun t9 w13 =>
        semE Tryz.prog (Builtin.append_ #[44, 44] 44 #[v0, t9]) w13 fun t10 w14 =>
        K t10 w14)))
theorem W223_eq (v0 v1 : Value) (w : World) (K : Value → World → Prop) : funW Tryz.prog Tryz.f223 plan223 [v0, v1] w K = W223 v0 v1 w K := by kernel_rfl
theorem W223_chk : chkFun Tryz.prog Tryz.f223 plan223 2 = true := by kernel_rfl
theorem W223_ok {v0 v1 : Value} {w : World} {K : Value → World → Prop} (h : W223 v0 v1 w K) : callF Tryz.prog 223 [v0, v1] w K :=
  tie Tryz.prog 223 Tryz.f223 plan223 [v0, v1] w K 2 (W223 v0 v1 w K) rfl mixed Tryz.func223 W223_chk (W223_eq v0 v1 w K) Tryz.call223 h

/- strconv.FormatInt -/
def plan154 : Plan := { js := [], ds := [] }
def W154 (v0 v1 : Value) (w : World) (K : Value → World → Prop) : Prop :=
  callF Tryz.prog 172 [v0, v1] w fun t7 w1 =>
  K t7 w1
theorem W154_eq (v0 v1 : Value) (w : World) (K : Value → World → Prop) : funW Tryz.prog Tryz.f154 plan154 [v0, v1] w K = W154 v0 v1 w K := by kernel_rfl
theorem W154_chk : chkFun Tryz.prog Tryz.f154 plan154 2 = true := by kernel_rfl
theorem W154_ok {v0 v1 : Value} {w : World} {K : Value → World → Prop} (h : W154 v0 v1 w K) : callF Tryz.prog 154 [v0, v1] w K :=
  tie Tryz.prog 154 Tryz.f154 plan154 [v0, v1] w K 2 (W154 v0 v1 w K) rfl mixed Tryz.func154 W154_chk (W154_eq v0 v1 w K) Tryz.call154 h

/- internal_strconv.FormatInt -/
def plan172 : Plan := { js := [(18, ⟨[6], [], 6⟩), (8003, ⟨[16], [], 15⟩)], ds := [] }
def W172 (v0 v1 : Value) (w : World) (K : Value → World → Prop) : Prop :=
  binW .eql v1 (.int .i64 10) fun t11 =>
  condW t11 (
    binW .leq (.int .i64 0) v0 fun t13 =>
    GdW (isB t13 true) [undef] w (fun J1 =>
      binW .lss v0 (.int .i64 100) fun t16 =>
      J1 [t16] w)
    fun s1 _ w2 =>
    pickW t13 (s1.getD 0 undef) (.bool false) fun t17 =>
    condW t17 (
      callF Tryz.prog 196 [v0] w2 fun t19 w3 =>
      K t19 w3) (
      allocW 191 (List.replicate 24 (.int .u8 0)) w2 fun t5 w4 =>
      cvtW .u64 v0 fun t21 =>
      JoinW (fun J5 =>
        binW .lss v0 (.int .i64 0) fun t23 =>
        condW t23 (
          unW .neg t21 fun t25 =>
          J5 [t25] w4) (
          J5 [t21] w4))
      fun s5 _ w6 =>
      callF Tryz.prog 197 [(s5.getD 0 undef)] w6 fun t27 w7 =>
      binW .add (.int .i64 1) t27 fun t29 =>
      slaW 24 1 t5 (some (.int .i64 1)) (some t29) none fun t30 =>
      callF Tryz.prog 198 [t30, (s5.getD 0 undef)] w7 fun t32 w8 =>
      binW .lss v0 (.int .i64 0) fun t34 =>
      condW t34 (
        ixaW (some 24) 1 t5 (.int .i64 0) fun t35 =>
        stW 1 t35 (.int .u8 45) w8 fun w9 =>
        binW .add (.int .i64 1) t27 fun t37 =>
        slaW 24 1 t5 none (some t37) none fun t38 =>
        semQ Tryz.prog (convert 44 9 t38) w9 fun t39 =>
        K t39 w9) (
        binW .add (.int .i64 1) t27 fun t41 =>
        slaW 24 1 t5 (some (.int .i64 1)) (some t41) none fun t42 =>
        semQ Tryz.prog (convert 44 9 t42) w8 fun t43 =>
        K t43 w8))) (
    cvtW .u64 v0 fun t46 =>
    binW .lss v0 (.int .i64 0) fun t49 =>
    callF Tryz.prog 199 [(.slice none 0 0), t46, v1, t49, (.bool false)] w fun t50 w10 =>
    extW 0 t50 fun t51 =>
    extW 1 t50 fun t52 =>
    K t52 w10)
theorem W172_eq (v0 v1 : Value) (w : World) (K : Value → World → Prop) : funW Tryz.prog Tryz.f172 plan172 [v0, v1] w K = W172 v0 v1 w K := by kernel_rfl
theorem W172_chk : chkFun Tryz.prog Tryz.f172 plan172 2 = true := by kernel_rfl
theorem W172_ok {v0 v1 : Value} {w : World} {K : Value → World → Prop} (h : W172 v0 v1 w K) : callF Tryz.prog 172 [v0, v1] w K :=
  tie Tryz.prog 172 Tryz.f172 plan172 [v0, v1] w K 2 (W172 v0 v1 w K) rfl mixed Tryz.func172 W172_chk (W172_eq v0 v1 w K) Tryz.call172 h

/- internal_strconv.formatBits -/
def plan199 : Plan := { js := [(68, ⟨[13], [], 13⟩), (18, ⟨[13], [1], 13⟩), (50, ⟨[1, 13], [1, 13], 18⟩), (30, ⟨[1, 13], [1, 13], 17⟩), (12, ⟨[1], [1], 14⟩), (2, ⟨[], [], 12⟩), (4003, ⟨[27], [], 26⟩), (4007, ⟨[23], [], 22⟩)], ds := [] }
def W199 (v0 v1 v2 v3 v4 : Value) (w : World) (K : Value → World → Prop) : Prop :=
  JoinW (fun J1 =>
    binW .lss v2 (.int .i64 2) fun t20 =>
    GdW (isB t20 false) [undef] w (fun J2 =>
      binW .eql v2 (.int .i64 10) fun t23 =>
      J2 [t23] w)
    fun s2 _ w3 =>
    pickW t20 (.bool true) (s2.getD 0 undef) fun t24 =>
    GdW (isB t24 false) [undef] w3 (fun J4 =>
      binW .gtr v2 (.int .i64 36) fun t27 =>
      J4 [t27] w3)
    fun s4 _ w5 =>
    pickW t24 (.bool true) (s4.getD 0 undef) fun t28 =>
    condW t28 (
      pncW (.iface 9 (.string (ofL [115, 116, 114, 99, 111, 110, 118, 58, 32, 105, 108, 108, 101, 103, 97, 108, 32, 65, 112, 112, 101, 110, 100, 73, 110, 116, 47, 70, 111, 114, 109, 97, 116, 73, 110, 116, 32, 98, 97, 115, 101]))) w5) (
      J1 [] w5))
  fun s1 _ w6 =>
  allocW 225 (List.replicate 65 (.int .u8 0)) w6 fun t12 w7 =>
  JoinW (fun J8 =>
    condW v3 (
      unW .neg v1 fun t32 =>
      J8 [t32] w7) (
      J8 [v1] w7))
  fun s8 _ w9 =>
  JoinW (fun J10 =>
    callF Tryz.prog 247 [v2] w9 fun t34 w11 =>
    condW t34 (
      cvtW .u64 v2 fun t36 =>
      callF Tryz.prog 248 [t36] w11 fun t37 w12 =>
      cvtW .u64 t37 fun t38 =>
      cvtW .u64 v2 fun t40 =>
      cvtW .u64 v2 fun t42 =>
      binW .sub t42 (.int .u64 1) fun t43 =>
      LoopW [(s8.getD 0 undef), (.int .i64 65)] w12 fun s13 _ w14 L13 =>
        binW .geq (s13.getD 0 undef) t40 fun t46 =>
        condW t46 (
          binW .sub (s13.getD 1 undef) (.int .i64 1) fun t48 =>
          binW .and (s13.getD 0 undef) t43 fun t52 =>
          ixsW (.string (ofL [48, 49, 50, 51, 52, 53, 54, 55, 56, 57, 97, 98, 99, 100, 101, 102, 103, 104, 105, 106, 107, 108, 109, 110, 111, 112, 113, 114, 115, 116, 117, 118, 119, 120, 121, 122])) t52 fun t53 =>
          ixaW (some 65) 1 t12 t48 fun t54 =>
          stW 1 t54 t53 w14 fun w15 =>
          binW .shr (s13.getD 0 undef) t38 fun t57 =>
          L13 [t57, t48] w15) (
          binW .sub (s13.getD 1 undef) (.int .i64 1) fun t59 =>
          ixsW (.string (ofL [48, 49, 50, 51, 52, 53, 54, 55, 56, 57, 97, 98, 99, 100, 101, 102, 103, 104, 105, 106, 107, 108, 109, 110, 111, 112, 113, 114, 115, 116, 117, 118, 119, 120, 121, 122])) (s13.getD 0 undef) fun t62 =>
          ixaW (some 65) 1 t12 t59 fun t63 =>
          stW 1 t63 t62 w14 fun w16 =>
          J10 [t59] w16)) (
      cvtW .u64 v2 fun t65 =>
      LoopW [(s8.getD 0 undef), (.int .i64 65)] w11 fun s17 _ w18 L17 =>
        binW .geq (s17.getD 0 undef) t65 fun t68 =>
        condW t68 (
          binW .sub (s17.getD 1 undef) (.int .i64 1) fun t70 =>
          binW .quo (s17.getD 0 undef) t65 fun t73 =>
          binW .mul t73 t65 fun t78 =>
          binW .sub (s17.getD 0 undef) t78 fun t79 =>
          ixsW (.string (ofL [48, 49, 50, 51, 52, 53, 54, 55, 56, 57, 97, 98, 99, 100, 101, 102, 103, 104, 105, 106, 107, 108, 109, 110, 111, 112, 113, 114, 115, 116, 117, 118, 119, 120, 121, 122])) t79 fun t80 =>
          ixaW (some 65) 1 t12 t70 fun t81 =>
          stW 1 t81 t80 w18 fun w19 =>
          L17 [t73, t70] w19) (
          binW .sub (s17.getD 1 undef) (.int .i64 1) fun t84 =>
          ixsW (.string (ofL [48, 49, 50, 51, 52, 53, 54, 55, 56, 57, 97, 98, 99, 100, 101, 102, 103, 104, 105, 106, 107, 108, 109, 110, 111, 112, 113, 114, 115, 116, 117, 118, 119, 120, 121, 122])) (s17.getD 0 undef) fun t87 =>
          ixaW (some 65) 1 t12 t84 fun t88 =>
          stW 1 t88 t87 w18 fun w20 =>
          J10 [t84] w20)))
  fun s10 _ w21 =>
  JoinW (fun J22 =>
    condW v3 (
      binW .sub (s10.getD 0 undef) (.int .i64 1) fun t91 =>
      ixaW (some 65) 1 t12 t91 fun t93 =>
      stW 1 t93 (.int .u8 45) w21 fun w23 =>
      J22 [t91] w23) (
      J22 [(s10.getD 0 undef)] w21))
  fun s22 _ w24 =>
  condW v4 (
    slaW 65 1 t12 (some (s22.getD 0 undef)) none none fun t97 =>
    semE Tryz.prog (Builtin.append_ #[44, 44] 44 #[v0, t97]) w24 fun t98 w25 =>
    K (.tuple #[t98, (.string (ofL []))]) w25) (
    slaW 65 1 t12 (some (s22.getD 0 undef)) none none fun t100 =>
    semQ Tryz.prog (convert 44 9 t100) w24 fun t101 =>
    K (.tuple #[(.slice none 0 0), t101]) w24)
theorem W199_eq (v0 v1 v2 v3 v4 : Value) (w : World) (K : Value → World → Prop) : funW Tryz.prog Tryz.f199 plan199 [v0, v1, v2, v3, v4] w K = W199 v0 v1 v2 v3 v4 w K := by kernel_rfl
theorem W199_chk : chkFun Tryz.prog Tryz.f199 plan199 5 = true := by kernel_rfl
theorem W199_ok {v0 v1 v2 v3 v4 : Value} {w : World} {K : Value → World → Prop} (h : W199 v0 v1 v2 v3 v4 w K) : callF Tryz.prog 199 [v0, v1, v2, v3, v4] w K :=
  tie Tryz.prog 199 Tryz.f199 plan199 [v0, v1, v2, v3, v4] w K 5 (W199 v0 v1 v2 v3 v4 w K) rfl mixed Tryz.func199 W199_chk (W199_eq v0 v1 v2 v3 v4 w K) Tryz.call199 h

/- internal_strconv.isPowerOfTwo -/
def plan247 : Plan := { js := [], ds := [] }
def W247 (v0 : Value) (w : World) (K : Value → World → Prop) : Prop :=
  binW .sub v0 (.int .i64 1) fun t5 =>
  binW .and v0 t5 fun t6 =>
  binW .eql t6 (.int .i64 0) fun t7 =>
  K t7 w
theorem W247_eq (v0 : Value) (w : World) (K : Value → World → Prop) : funW Tryz.prog Tryz.f247 plan247 [v0] w K = W247 v0 w K := by kernel_rfl
theorem W247_chk : chkFun Tryz.prog Tryz.f247 plan247 1 = true := by kernel_rfl
theorem W247_ok {v0 : Value} {w : World} {K : Value → World → Prop} (h : W247 v0 w K) : callF Tryz.prog 247 [v0] w K :=
  tie Tryz.prog 247 Tryz.f247 plan247 [v0] w K 1 (W247 v0 w K) rfl mixed Tryz.func247 W247_chk (W247_eq v0 w K) Tryz.call247 h


end Go.Proofs.YtcnjpcadejcenaaGreatDoor

namespace Go.Proofs.YtcnjpcadejcenaaGreatDoor
open Go Go.Eng Go.RowKit
set_option maxRecDepth 100000
abbrev BdT : TypeId := 78
theorem elem_u8 : ElemT Tryz.prog 44 U8 1 1 := ⟨by kernel_rfl, by kernel_rfl, by decide⟩
/-- a builder in block b, whose row lies from B on, that holds l -/
def Bld (w : World) (B b : Nat) (l : Str) : Prop :=
  ∃ p v, w.heap[b]? = some (.cells [p, v].toArray BdT (0, 0)) ∧ (p = .pointer none ∨ p = .pointer (some ⟨b, 0, none⟩)) ∧ Own w B U8 1 v l.length (u8s l) ∧ B ≤ b
/-- what a write may turn -/
def BCh (w : World) (B b : Nat) (k : Nat) : Prop := k = b ∨ OwnS w B U8 k
theorem Bld.chg {S : Nat → Prop} {w w' : World} {B b : Nat} {l : Str} (h : Bld w B b l) (hc : Chg S w w') (hb : ¬ S b) (hS : ∀ k, OwnS w B U8 k → ¬ S k) : Bld w' B b l := by
  obtain ⟨p, v, h1, h2, h3, h4⟩ := h
  exact ⟨p, v, hc.at h1 hb, h2, h3.chg hc hS, h4⟩
theorem Bld.ext {w w' : World} {B b : Nat} {l : Str} (h : Bld w B b l) (hc : Ext w w') : Bld w' B b l := h.chg hc (fun e => e) fun _ _ e => e
theorem Bld.lt {w : World} {B b : Nat} {l : Str} (h : Bld w B b l) : b < w.heap.size := by
  obtain ⟨p, v, h1, _⟩ := h
  exact at_lt h1
theorem Bld.base {w : World} {B b : Nat} {l : Str} (h : Bld w B b l) : B ≤ b := by obtain ⟨p, v, _, _, _, h4⟩ := h; exact h4
/-- a builder's block is no row of bytes -/
theorem bd_ne {w : World} {B b : Nat} {p v : Value} (h1 : w.heap[b]? = some (.cells [p, v].toArray BdT (0, 0))) : ¬ OwnS w B U8 b := by
  rintro ⟨_, c, hc⟩
  rw [h1] at hc
  simp only [Option.some.injEq, Obj.cells.injEq] at hc
  exact absurd hc.2.1 (by decide)
theorem BCh.trans {w w1 w2 : World} {B b : Nat} (h1 : Chg (BCh w B b) w w1) (h2 : Chg (BCh w1 B b) w1 w2) : Chg (BCh w B b) w w2 := by
  refine ⟨h2.os.trans h1.os, h2.tape.trans h1.tape, h2.output.trans h1.output, Nat.le_trans h1.size h2.size, fun k hk hn => ?_⟩
  have e1 := h1.heap k hk hn
  rw [← e1]
  refine h2.heap k (Nat.lt_of_lt_of_le hk h1.size) fun e => hn ?_
  rcases e with e | ⟨e2, c, e3⟩
  · exact .inl e
  · exact .inr ⟨e2, c, by rw [← e1]; exact e3⟩
theorem BCh.ext {w w1 w2 : World} {B b : Nat} (h1 : Chg (BCh w B b) w w1) (h2 : Ext w1 w2) : Chg (BCh w B b) w w2 := h1.then h2 fun _ _ e => e.elim
theorem BCh.from {w w1 w2 : World} {B b : Nat} (h1 : Ext w w1) (h2 : Chg (BCh w1 B b) w1 w2) : Chg (BCh w B b) w w2 := BCh.trans (Chg.of_ext h1) h2
theorem BCh.new {w0 w w' : World} {B b : Nat} (h0 : Ext w0 w) (hB : w0.heap.size ≤ B) (hb : B ≤ b) (h : Chg (BCh w B b) w w') : Ext w0 w' :=
  h0.then h fun k hk e => by
    rcases e with rfl | ⟨e, _⟩
    · omega
    · omega
/-- a block that is neither -/
theorem BCh.keep {w w' : World} {B b k : Nat} {c : Array Value} {T : TypeId} {fr : Nat × Nat} (h : Chg (BCh w B b) w w') (hk : w.heap[k]? = some (.cells c T fr)) (hb : k ≠ b) (hT : T ≠ U8) : w'.heap[k]? = some (.cells c T fr) :=
  h.at hk fun e => by
    rcases e with e | ⟨_, c', e⟩
    · exact hb e
    · rw [hk] at e
      simp only [Option.some.injEq, Obj.cells.injEq] at e
      exact hT e.2.1
theorem BCh.iter {w w' : World} {B b k p : Nat} {s : ByteArray} (h : Chg (BCh w B b) w w') (hk : w.heap[k]? = some (.stringIter s p)) (hb : k ≠ b) : w'.heap[k]? = some (.stringIter s p) :=
  h.at hk fun e => by
    rcases e with e | ⟨_, c', e⟩
    · exact hb e
    · rw [hk] at e; cases e
section
variable [HX]
theorem bnew {w : World} {B : Nat} {K : Value → World → Prop} (hB : B ≤ w.heap.size) (hK : ∀ b w', b = w.heap.size → Bld w' B b [] → Ext w w' → K (.pointer (some ⟨b, 0, none⟩)) w') : allocW BdT [.pointer none, .slice none 0 0] w K :=
  alloc_new fun a w' ha hz hb hx => hK a w' ha ⟨_, _, hb, .inl rfl, ⟨by simp [u8s], .inl ⟨rfl, rfl⟩⟩, by omega⟩ hx
/-- the check of a writing method -/
theorem check_p {w : World} {B b : Nat} {l : Str} {K : Value → World → Prop} (h : Bld w B b l)
    (hK : ∀ v w', w'.heap[b]? = some (.cells [.pointer (some ⟨b, 0, none⟩), v].toArray BdT (0, 0)) → Own w' B U8 1 v l.length (u8s l) → w'.heap.size = w.heap.size → Chg (BCh w B b) w w' → K (.tuple #[]) w') :
    callF Tryz.prog 137 [.pointer (some ⟨b, 0, none⟩)] w K := by
  obtain ⟨p, v, h1, h2, h3, h4⟩ := h
  have c0 : w.cell? ⟨b, 0, none⟩ = some p := by rw [cell_eq, h1]; rfl
  rcases h2 with rfl | rfl
  · refine of_calls (args := #[.pointer (some ⟨b, 0, none⟩)]) Tryz.call137 ((Tryz.check_fresh b w c0 (by simp [World.shape?, h1]) (by rw [frozen_eq, h1]; rfl)).mono ?_)
    rintro e w' ⟨rfl, rfl⟩
    refine ⟨_, rfl, hK v _ ?_ ?_ (size_set _ _ _) (Chg.set (Chg.refl _ _) (.inl (.inl rfl)) _)⟩
    · rw [heap_set_same, h1]; rfl
    · refine h3.chg (Chg.set (S := fun k => k = b) (Chg.refl _ _) (.inl rfl) _) fun k hk e => ?_
      subst e
      exact bd_ne h1 hk
  · refine of_calls (args := #[.pointer (some ⟨b, 0, none⟩)]) Tryz.call137 ((Tryz.check_used b w c0).mono ?_)
    rintro e w' ⟨rfl, rfl⟩
    exact ⟨_, rfl, hK v _ h1 h3 rfl (Chg.refl _ _)⟩
/-- the new row is stored -/
theorem bstore {w w3 : World} {B b n : Nat} {l l' : Str} {v v' : Value} {K : World → Prop} (h1 : w.heap[b]? = some (.cells [.pointer (some ⟨b, 0, none⟩), v].toArray BdT (0, 0))) (hO : Own w B U8 1 v l.length (u8s l)) (hb : B ≤ b)
    (hc : Chg (fun k => v.ownBlock = some k) w w3) (hO' : Own w3 B U8 1 v' l'.length (u8s l')) (hK : ∀ w', Bld w' B b l' → Chg (BCh w B b) w w' → w'.heap.size = w3.heap.size → K w') :
    stW 1 (.pointer (some ⟨b, 1, none⟩)) v' w3 K := by
  have hne : ¬ v.ownBlock = some b := fun e => bd_ne h1 (hO.block b e)
  have h3 := hc.at h1 hne
  have hsh : one1 v' = true := by obtain ⟨p, c, rfl, _⟩ := hO'.sl.shape; rfl
  refine st_at h3 hsh (by simp) fun w4 hz hb4 hc4 => ?_
  refine hK w4 ⟨.pointer (some ⟨b, 0, none⟩), v', by rw [hb4]; simp, .inr rfl, hO'.chg hc4 fun k hk e => by subst e; exact bd_ne h3 hk, hb⟩ ?_ hz
  have s1 : Chg (BCh w B b) w w3 := hc.mono fun k _ e => .inr (hO.block k e)
  exact s1.then hc4 fun k _ e => .inl e
theorem wstr_p {w : World} {B b : Nat} {l s : Str} {K : Value → World → Prop} (h : Bld w B b l) (hB : B ≤ w.heap.size) (hl : l.length + s.length ≤ 140737488355328)
    (hK : ∀ v w', Bld w' B b (l ++ s) → Chg (BCh w B b) w w' → K v w') : callF Tryz.prog 78 [.pointer (some ⟨b, 0, none⟩), str s] w K := by
  have hb := h.base
  refine W78_ok ?_
  unfold W78
  refine check_p h fun v w1 h1 hO hz hc => ?_
  rw [nil_ptr, fld_ptr, ld_one]
  refine ⟨v, by rw [add_mk, cell_eq, h1]; rfl, ?_⟩
  obtain ⟨i, z, hi, hzr, h2, h3, h4⟩ := elem_u8.get
  have hz0 : i.zero = some (.int .u8 0) := by
    have : (Tryz.prog.info? U8).map (·.zero) = some (some (.int .u8 0)) := by kernel_rfl
    rw [hi] at this; simpa using this
  obtain ⟨v', w3, hr, hO', hg, _⟩ := Lib.run_append_own_string (P := Tryz.prog) w1 B 44 9 44 U8 i elem_u8.und (by kernel_rfl) hi hz0 h2 h3 v l.length (u8s l) hO (ofL s) (by rw [ofL_size]; unfold maxLen; omega) (by rw [ofL_size]; omega) (by omega)
  unfold semE
  rw [hr]
  dsimp only
  rw [nil_ptr, fld_ptr]
  have hO2 : Own w3 B U8 1 v' (l ++ s).length (u8s (l ++ s)) := by
    rw [u8s_app, List.length_append]
    have e1 : Lib.strCells (ofL s) = u8s s := by unfold Lib.strCells u8s; rw [ofL_data]
    rw [ofL_size, e1] at hO'
    exact hO'
  refine bstore (n := 0) h1 hO hb (Chg.of_grown hg fun k e => e) hO2 fun w4 hb4 hc4 _ => ?_
  rw [lens_str]
  exact hK _ w4 hb4 (BCh.trans hc hc4)
theorem row_u8 {w : World} {n : Nat} {K : Value → World → Prop} (hK : ∀ t w', SlAt w' U8 t 1 [.int .u8 (n : Int)] → Ext w w' → K t w') : bslW U8 1 [(.int .u8 0)] [(0, 1, .int .u8 (n : Int))] w K := by
  rw [bslW]
  simp only [put_int, put_nil, List.length_cons, List.length_nil, List.set_cons_zero]
  refine ⟨by omega, ?_⟩
  refine hK _ _ ⟨_, _, rfl, Nat.le_refl _, fun e => (by cases e), fun _ => ⟨_, _, _, _, rfl, heap_anew _ _ _ rfl, fun i _ => by rw [Nat.zero_add]; simp⟩⟩ (Chg.alloc (Chg.refl _ _) _)
theorem wbyte_p {w : World} {B b n : Nat} {l : Str} {K : Value → World → Prop} (h : Bld w B b l) (hB : B ≤ w.heap.size) (hl : l.length + 1 ≤ 140737488355328) (hn : n < 256)
    (hK : ∀ w', Bld w' B b (l ++ [UInt8.ofNat n]) → Chg (BCh w B b) w w' → K .nilIface w') : callF Tryz.prog 80 [.pointer (some ⟨b, 0, none⟩), .int .u8 (n : Int)] w K := by
  have hb := h.base
  refine W80_ok ?_
  unfold W80
  refine check_p h fun v w1 h1 hO hz hc => ?_
  rw [nil_ptr, fld_ptr, ld_one]
  refine ⟨v, by rw [add_mk, cell_eq, h1]; rfl, ?_⟩
  refine row_u8 fun t w2 ht hx2 => ?_
  refine append_own2 elem_u8 (hO.ext hx2) ht (m := 1) rfl (fun u hu => by simp only [List.mem_singleton] at hu; subst hu; rfl) (by omega) (by omega) (by have := hx2.size; omega) fun v' w3 hO3 hc3 _ => ?_
  rw [nil_ptr, fld_ptr]
  have hO2 : Own w3 B U8 1 v' (l ++ [UInt8.ofNat n]).length (u8s (l ++ [UInt8.ofNat n])) := by
    rw [u8s_app, List.length_append]
    have e1 : u8s [UInt8.ofNat n] = [.int .u8 (n : Int)] := by
      simp only [u8s, List.map_cons, List.map_nil, UInt8.toNat_ofNat']
      rw [Nat.mod_eq_of_lt (by omega)]
    rw [e1]
    exact hO3
  refine bstore (n := 0) (hx2.at h1 id) (hO.ext hx2) hb hc3 hO2 fun w4 hb4 hc4 _ => ?_
  exact hK w4 hb4 (BCh.trans hc (BCh.from hx2 hc4))
end
end Go.Proofs.YtcnjpcadejcenaaGreatDoor

namespace Go.Eng
open Go

/-! ### bytes and runes -/
/-- the byte at a place, -1 behind the end -/
def byteM (s : Str) (i : Nat) : Int := match s[i]? with | some b => (b.toNat : Int) | none => -1
def moreM (s : Str) (i : Nat) : Bool := decide (128 ≤ byteM s i) && decide (byteM s i < 192)
/-- how many bytes the rune at a place has, 0: none begins there -/
def runeM (s : Str) (i : Nat) : Nat :=
  let c := byteM s i
  if c < 0 then 0 else if c < 128 then 1
  else if 194 ≤ c ∧ c < 224 ∧ moreM s (i + 1) = true then 2
  else if 224 ≤ c ∧ c < 240 ∧ moreM s (i + 1) = true ∧ moreM s (i + 2) = true ∧
    2048 ≤ (c - 224) * 4096 + (byteM s (i + 1) - 128) * 64 + byteM s (i + 2) - 128 ∧ ((c - 224) * 4096 + (byteM s (i + 1) - 128) * 64 + byteM s (i + 2) - 128 < 55296 ∨ 57343 < (c - 224) * 4096 + (byteM s (i + 1) - 128) * 64 + byteM s (i + 2) - 128) then 3
  else if 240 ≤ c ∧ c < 245 ∧ moreM s (i + 1) = true ∧ moreM s (i + 2) = true ∧ moreM s (i + 3) = true ∧
    65536 ≤ (c - 240) * 262144 + (byteM s (i + 1) - 128) * 4096 + (byteM s (i + 2) - 128) * 64 + byteM s (i + 3) - 128 ∧ (c - 240) * 262144 + (byteM s (i + 1) - 128) * 4096 + (byteM s (i + 2) - 128) * 64 + byteM s (i + 3) - 128 ≤ 1114111 then 4
  else 0
/-- is the text UTF-8 from a place on? (n: steps left) -/
def utfGo (s : Str) : Nat → Nat → Bool
  | 0, i => decide (s.length ≤ i)
  | n + 1, i => if s.length ≤ i then true else if runeM s i = 0 then false else utfGo s n (i + runeM s i)
def utfM (s : Str) : Bool := utfGo s s.length 0
def b8 (n : Nat) : UInt8 := UInt8.ofNat n
/-- the UTF-8 of a number -/
def wrM (n : Nat) : Str :=
  if n < 128 then [b8 n] else if n < 2048 then [b8 (192 + n / 64), b8 (128 + n % 64)]
  else if n < 65536 then [b8 (224 + n / 4096), b8 (128 + n / 64 % 64), b8 (128 + n % 64)]
  else [b8 (240 + n / 262144), b8 (128 + n / 4096 % 64), b8 (128 + n / 64 % 64), b8 (128 + n % 64)]

/-! ### written -/
def hexD (n : Nat) : UInt8 := if n < 10 then b8 (48 + n) else b8 (87 + n)
def escB (c : UInt8) : Str :=
  if c = 34 ∨ c = 92 then [92, c] else if c = 8 then [92, 98] else if c = 12 then [92, 102] else if c = 10 then [92, 110] else if c = 13 then [92, 114] else if c = 9 then [92, 116]
  else if c < 32 then [92, 117, 48, 48, b8 (48 + c.toNat / 16), hexD (c.toNat % 16)] else [c]
def quoteM (s : Str) : Str := [34] ++ s.flatMap escB ++ [34]
def joinM : List Str → Str
  | [] => []
  | [x] => x
  | x :: y :: r => x ++ [44] ++ joinM (y :: r)
mutual
def showM : JV → Str
  | .mk k b t xs ks =>
    if k = 0 then [110, 117, 108, 108] else if k = 2 then (if b then [116, 114, 117, 101] else [102, 97, 108, 115, 101]) else if k = 3 then t else if k = 4 then quoteM t
    else if k = 6 then [123] ++ joinM (List.zipWith (fun a b => quoteM a ++ [58] ++ b) ks (showL xs)) ++ [125] else [91] ++ joinM (showL xs) ++ [93]
def showL : List JV → List Str
  | [] => []
  | x :: xs => showM x :: showL xs
end
mutual
def textsM : JV → Bool
  | .mk _ _ t xs ks => utfM t && ks.all utfM && textsL xs
def textsL : List JV → Bool
  | [] => true
  | x :: xs => textsM x && textsL xs
end
/-- the JSON and 0, or nothing and the error -/
def encM (eRange eUnknown eText eLong : Int) (v : JV) : Str × Int :=
  if goodM v = false then ([], eRange) else if knownM v = false then ([], eUnknown) else if textsM v = false then ([], eText) else if 65536 < (showM v).length then ([], eLong) else (showM v, 0)

/-! ### read -/
inductive RR (α : Type) where
  | ok (v : α) (i : Nat) (count : Nat)
  | bad (code : Int) (i : Nat)
def isBlank (c : Int) : Bool := decide (c = 32) || decide (c = 9) || decide (c = 10) || decide (c = 13)
def blankGo (s : Str) : Nat → Nat → Nat
  | 0, i => i
  | n + 1, i => if isBlank (byteM s i) then blankGo s n (i + 1) else i
def blankM (s : Str) (i : Nat) : Nat := blankGo s (s.length - i) i
def isDig (c : Int) : Bool := decide (48 ≤ c) && decide (c ≤ 57)
def digGo (s : Str) : Nat → Nat → Nat
  | 0, i => i
  | n + 1, i => if isDig (byteM s i) then digGo s n (i + 1) else i
def digM (s : Str) (i : Nat) : Nat := digGo s (s.length - i) i
def hexV (c : Int) : Int := if 48 ≤ c ∧ c ≤ 57 then c - 48 else if 97 ≤ c ∧ c ≤ 102 then c - 87 else if 65 ≤ c ∧ c ≤ 70 then c - 55 else -1
def hexM (s : Str) (i : Nat) : Int :=
  if i + 6 ≤ s.length ∧ byteM s i = 92 ∧ byteM s (i + 1) = 117 ∧ 0 ≤ hexV (byteM s (i + 2)) ∧ 0 ≤ hexV (byteM s (i + 3)) ∧ 0 ≤ hexV (byteM s (i + 4)) ∧ 0 ≤ hexV (byteM s (i + 5)) then
    ((hexV (byteM s (i + 2)) * 16 + hexV (byteM s (i + 3))) * 16 + hexV (byteM s (i + 4))) * 16 + hexV (byteM s (i + 5)) else -1
/-- what a backslash at a place stands for, and how many bytes it has; none: it is wrong -/
def escM (s : Str) (i : Nat) : Option (Str × Nat) :=
  let c := byteM s (i + 1)
  if c = 34 then some ([34], 2) else if c = 92 then some ([92], 2) else if c = 47 then some ([47], 2) else if c = 98 then some ([8], 2) else if c = 102 then some ([12], 2)
  else if c = 110 then some ([10], 2) else if c = 114 then some ([13], 2) else if c = 116 then some ([9], 2)
  else
    let a := hexM s i
    let b := hexM s (i + 6)
    if a < 0 ∨ 56320 ≤ a ∧ a ≤ 57343 then none
    else if 55296 ≤ a ∧ a ≤ 56319 then (if b < 56320 ∨ 57343 < b then none else some (wrM (65536 + (a - 55296) * 1024 + b - 56320).toNat, 12))
    else some (wrM a.toNat, 6)
/-- the errors' numbers -/
structure ErrNo where
  json : Int
  long : Int
  deep : Int
  text : Int
  twice : Int
def quotGo (E : ErrNo) (s : Str) (start : Nat) : Nat → Nat → Str → Nat → RR Str
  | 0, i, _, _ => .bad E.json i
  | n + 1, i, out, cnt =>
    if byteM s i = 34 then (if 16384 < out.length then .bad E.long start else .ok out (i + 1) cnt)
    else if byteM s i < 0 then .bad E.json s.length
    else if byteM s i = 92 then (match escM s i with | none => .bad E.json i | some (t, k) => quotGo E s start n (i + k) (out ++ t) cnt)
    else if byteM s i < 32 then .bad E.json i
    else if runeM s i = 0 then .bad E.text i
    else quotGo E s start n (i + runeM s i) (out ++ (s.drop i).take (runeM s i)) cnt
def quotM (E : ErrNo) (s : Str) (i cnt : Nat) : RR Str := quotGo E s i (s.length + 1) (i + 1) [] cnt
def numM (E : ErrNo) (s : Str) (i cnt : Nat) : RR JV :=
  let first := if byteM s i = 45 then i + 1 else i
  let stop := if byteM s first = 48 then first + 1 else digM s first
  if stop = first then .bad E.json stop
  else if 100 < stop - first then .bad E.long i
  else if isDig (byteM s stop) || decide (byteM s stop = 46) || decide (byteM s stop = 101) || decide (byteM s stop = 69) then .bad E.json stop
  else
    let t := (s.drop i).take (stop - i)
    .ok (.mk 3 false (if t = [45, 48] then [48] else t) [] []) stop cnt
def wordM (s : Str) (i : Nat) (w : Str) : Bool := decide ((s.drop i).take w.length = w)
mutual
/-- a value at a place, so deep, so many values ahead of it (first: steps left) -/
def valM (E : ErrNo) (s : Str) : Nat → Nat → Nat → Nat → RR JV
  | 0, _, i, _ => .bad E.json i
  | n + 1, deep, i0, cnt0 =>
    let i := blankM s i0
    if 24 < deep then .bad E.deep i
    else if 2000 ≤ cnt0 then .bad E.long i
    else if wordM s i [110, 117, 108, 108] then .ok JV.null (i + 4) (cnt0 + 1)
    else if wordM s i [116, 114, 117, 101] then .ok (.mk 2 true [] [] []) (i + 4) (cnt0 + 1)
    else if wordM s i [102, 97, 108, 115, 101] then .ok (.mk 2 false [] [] []) (i + 5) (cnt0 + 1)
    else if byteM s i = 45 ∨ isDig (byteM s i) = true then numM E s i (cnt0 + 1)
    else if byteM s i = 34 then (match quotM E s i (cnt0 + 1) with | .ok t j c => .ok (.mk 4 false t [] []) j c | .bad e j => .bad e j)
    else if byteM s i = 91 then (if byteM s (blankM s (i + 1)) = 93 then .ok (.mk 5 false [] [] []) (blankM s (i + 1) + 1) (cnt0 + 1) else listM E s n deep (blankM s (i + 1)) (cnt0 + 1) [])
    else if byteM s i = 123 then (if byteM s (blankM s (i + 1)) = 125 then .ok (.mk 6 false [] [] []) (blankM s (i + 1) + 1) (cnt0 + 1) else objM E s n deep (blankM s (i + 1)) (cnt0 + 1) (.mk 6 false [] [] []))
    else .bad E.json i
def listM (E : ErrNo) (s : Str) : Nat → Nat → Nat → Nat → List JV → RR JV
  | 0, _, i, _, _ => .bad E.json i
  | n + 1, deep, i, cnt, acc =>
    match valM E s n (deep + 1) i cnt with
    | .bad e j => .bad e j
    | .ok x j c =>
      if byteM s (blankM s j) = 93 then .ok (.mk 5 false [] (acc ++ [x]) []) (blankM s j + 1) c
      else if byteM s (blankM s j) = 44 then listM E s n deep (blankM s j + 1) c (acc ++ [x])
      else .bad E.json (blankM s j)
def objM (E : ErrNo) (s : Str) : Nat → Nat → Nat → Nat → JV → RR JV
  | 0, _, i, _, _ => .bad E.json i
  | n + 1, deep, i0, cnt, acc =>
    let i := blankM s i0
    if byteM s i ≠ 34 then .bad E.json i
    else match quotM E s i cnt with
    | .bad e j => .bad e j
    | .ok key j c =>
      if (getM acc key).isSome then .bad E.twice i
      else if byteM s (blankM s j) ≠ 58 then .bad E.json (blankM s j)
      else match valM E s n (deep + 1) (blankM s j + 1) c with
      | .bad e j2 => .bad e j2
      | .ok x j2 c2 =>
        if byteM s (blankM s j2) = 125 then .ok (putM acc key x) (blankM s j2 + 1) c2
        else if byteM s (blankM s j2) = 44 then objM E s n deep (blankM s j2 + 1) c2 (putM acc key x)
        else .bad E.json (blankM s j2)
end
/-- a text read whole -/
def decM (E : ErrNo) (s : Str) : RR JV :=
  if 65536 < s.length then .bad E.long 0
  else match valM E s 5000 1 0 0 with
  | .bad e i => .bad e i
  | .ok v i c => if blankM s i < s.length then .bad E.json (blankM s i) else .ok v i c
end Go.Eng

namespace Go.Eng
open Go

/-- the byte at a place as a number, 0 behind the end -/
def bt (s : Str) (i : Nat) : Nat := (s.getD i 0).toNat
theorem bt_lt (s : Str) (i : Nat) : bt s i < 256 := UInt8.toNat_lt _
theorem byteM_in {s : Str} {i : Nat} (h : i < s.length) : byteM s i = (bt s i : Int) := by
  unfold byteM bt
  rw [List.getElem?_eq_getElem h, List.getD_eq_getElem?_getD, List.getElem?_eq_getElem h]; rfl
theorem byteM_out {s : Str} {i : Nat} (h : s.length ≤ i) : byteM s i = -1 := by
  unfold byteM
  rw [List.getElem?_eq_none h]
theorem byteM_neg {s : Str} {i : Nat} : byteM s i < 0 ↔ s.length ≤ i := by
  rcases Nat.lt_or_ge i s.length with h | h
  · rw [byteM_in h]; omega
  · rw [byteM_out h]; omega
theorem get_bt (s : Str) (i : Nat) : ((ofL s).get! i).toNat = bt s i := by
  unfold bt
  congr 1
  show (s.toArray)[i]! = s.getD i 0
  rw [List.getElem!_toArray, List.getElem!_eq_getElem?_getD, List.getD_eq_getElem?_getD]; rfl
theorem dec_ofL (s : Str) (i : Nat) : Utf8.decode (ofL s) i = Lib.decodeN (s.length - i) (bt s i) (bt s (i + 1)) (bt s (i + 2)) (bt s (i + 3)) := by
  rw [Lib.decode_at, get_bt, get_bt, get_bt, get_bt, ofL_size]

abbrev mor (L k b : Nat) : Prop := k < L ∧ 128 ≤ b ∧ b < 192
abbrev c3 (b0 b1 b2 : Nat) : Nat := (b0 - 224) * 4096 + (b1 - 128) * 64 + (b2 - 128)
abbrev c4 (b0 b1 b2 b3 : Nat) : Nat := (b0 - 240) * 262144 + (b1 - 128) * 4096 + (b2 - 128) * 64 + (b3 - 128)
/-- what is decoded, by the plain model's ranges -/
def decR (L b0 b1 b2 b3 : Nat) : Nat × Nat :=
  if b0 < 128 then (b0, 1)
  else if 194 ≤ b0 ∧ b0 < 224 ∧ mor L 1 b1 then ((b0 - 192) * 64 + (b1 - 128), 2)
  else if 224 ≤ b0 ∧ b0 < 240 ∧ mor L 1 b1 ∧ mor L 2 b2 ∧ 2048 ≤ c3 b0 b1 b2 ∧ (c3 b0 b1 b2 < 55296 ∨ 57343 < c3 b0 b1 b2) then (c3 b0 b1 b2, 3)
  else if 240 ≤ b0 ∧ b0 < 245 ∧ mor L 1 b1 ∧ mor L 2 b2 ∧ mor L 3 b3 ∧ 65536 ≤ c4 b0 b1 b2 b3 ∧ c4 b0 b1 b2 b3 ≤ 1114111 then (c4 b0 b1 b2 b3, 4)
  else (65533, 1)
theorem dec_decR {L b0 b1 b2 b3 : Nat} (h0 : b0 < 256) (h1 : b1 < 256) (h2 : b2 < 256) (h3 : b3 < 256) : Lib.decodeN L b0 b1 b2 b3 = decR L b0 b1 b2 b3 := by
  have m1 : (1 < L ∧ b1 / 64 = 2) ↔ mor L 1 b1 := by unfold mor; omega
  have m2 : (2 < L ∧ b2 / 64 = 2) ↔ mor L 2 b2 := by unfold mor; omega
  have m3 : (3 < L ∧ b3 / 64 = 2) ↔ mor L 3 b3 := by unfold mor; omega
  unfold Lib.decodeN decR
  simp only [m1, m2, m3]
  by_cases a0 : b0 < 128
  · rw [if_pos a0, if_pos a0]
  rw [if_neg a0, if_neg a0]
  by_cases a1 : b0 < 194
  · rw [if_neg (show ¬ (194 ≤ b0 ∧ b0 < 224 ∧ mor L 1 b1) from fun h => by omega), if_neg (show ¬ (224 ≤ b0 ∧ b0 < 240 ∧ _) from fun h => by omega), if_neg (show ¬ (240 ≤ b0 ∧ b0 < 245 ∧ _) from fun h => by omega)]
    rw [if_neg (show ¬ (b0 / 16 = 14 ∧ _) from fun h => by omega), if_neg (show ¬ (b0 / 8 = 30 ∧ _) from fun h => by omega)]
    by_cases a2 : b0 / 32 = 6 ∧ mor L 1 b1
    · rw [if_pos a2, if_neg (by omega)]
    · rw [if_neg a2]
  by_cases a2 : b0 < 224
  · rw [if_neg (show ¬ (224 ≤ b0 ∧ b0 < 240 ∧ _) from fun h => by omega), if_neg (show ¬ (240 ≤ b0 ∧ b0 < 245 ∧ _) from fun h => by omega)]
    rw [if_neg (show ¬ (b0 / 16 = 14 ∧ _) from fun h => by omega), if_neg (show ¬ (b0 / 8 = 30 ∧ _) from fun h => by omega)]
    by_cases q : mor L 1 b1
    · have q' := q
      unfold mor at q'
      rw [if_pos ⟨by omega, q⟩, if_pos (by omega), if_pos ⟨by omega, a2, q⟩]
      apply Prod.ext
      · show b0 % 32 * 64 + b1 % 64 = (b0 - 192) * 64 + (b1 - 128); omega
      · rfl
    · rw [if_neg (fun h => q h.2), if_neg (fun h => q h.2.2)]
  by_cases a3 : b0 < 240
  · rw [if_neg (show ¬ (194 ≤ b0 ∧ b0 < 224 ∧ mor L 1 b1) from fun h => by omega), if_neg (show ¬ (240 ≤ b0 ∧ b0 < 245 ∧ _) from fun h => by omega)]
    rw [if_neg (show ¬ (b0 / 32 = 6 ∧ _) from fun h => by omega), if_neg (show ¬ (b0 / 8 = 30 ∧ _) from fun h => by omega)]
    by_cases q : mor L 1 b1 ∧ mor L 2 b2
    · have q' := q
      unfold mor at q'
      have e : b0 % 16 * 4096 + b1 % 64 * 64 + b2 % 64 = c3 b0 b1 b2 := by unfold c3; omega
      have e2 : c3 b0 b1 b2 ≤ 65535 := by unfold c3; omega
      rw [if_pos ⟨by omega, q.1, q.2⟩]
      simp only [e]
      by_cases r : 2048 ≤ c3 b0 b1 b2 ∧ (c3 b0 b1 b2 < 55296 ∨ 57343 < c3 b0 b1 b2)
      · rw [if_pos ⟨r.1, by omega⟩, if_pos ⟨by omega, a3, q.1, q.2, r.1, r.2⟩]
      · rw [if_neg (by omega), if_neg (fun h => r ⟨h.2.2.2.2.1, h.2.2.2.2.2⟩)]
    · rw [if_neg (fun h => q ⟨h.2.1, h.2.2⟩), if_neg (fun h => q ⟨h.2.2.1, h.2.2.2.1⟩)]
  · rw [if_neg (show ¬ (194 ≤ b0 ∧ b0 < 224 ∧ mor L 1 b1) from fun h => by omega), if_neg (show ¬ (224 ≤ b0 ∧ b0 < 240 ∧ _) from fun h => by omega)]
    rw [if_neg (show ¬ (b0 / 32 = 6 ∧ _) from fun h => by omega), if_neg (show ¬ (b0 / 16 = 14 ∧ _) from fun h => by omega)]
    by_cases q : mor L 1 b1 ∧ mor L 2 b2 ∧ mor L 3 b3
    · have q' := q
      unfold mor at q'
      by_cases a4 : b0 < 248
      · have e : b0 % 8 * 262144 + b1 % 64 * 4096 + b2 % 64 * 64 + b3 % 64 = c4 b0 b1 b2 b3 := by unfold c4; omega
        rw [if_pos ⟨by omega, q.1, q.2.1, q.2.2⟩]
        simp only [e]
        by_cases r : 65536 ≤ c4 b0 b1 b2 b3 ∧ c4 b0 b1 b2 b3 ≤ 1114111
        · rw [if_pos ⟨r.1, by omega⟩, if_pos ⟨by omega, by have := r.2; unfold c4 at this; omega, q.1, q.2.1, q.2.2, r.1, r.2⟩]
        · rw [if_neg (by omega), if_neg (fun h => r ⟨h.2.2.2.2.2.1, h.2.2.2.2.2.2⟩)]
      · rw [if_neg (show ¬ (b0 / 8 = 30 ∧ _) from fun h => by omega), if_neg (show ¬ (240 ≤ b0 ∧ b0 < 245 ∧ _) from fun h => by omega)]
    · rw [if_neg (fun h => q ⟨h.2.1, h.2.2.1, h.2.2.2⟩), if_neg (fun h => q ⟨h.2.2.1, h.2.2.2.1, h.2.2.2.2.1⟩)]

theorem moreM_iff {s : Str} {i k : Nat} : moreM s (i + k) = true ↔ mor (s.length - i) k (bt s (i + k)) := by
  unfold moreM mor
  rw [Bool.and_eq_true, decide_eq_true_iff, decide_eq_true_iff]
  rcases Nat.lt_or_ge (i + k) s.length with h | h
  · rw [byteM_in h]; omega
  · rw [byteM_out h]; omega
/-- how many bytes a rune has, over numbers -/
def runR (L b0 b1 b2 b3 : Nat) : Nat :=
  if b0 < 128 then 1
  else if 194 ≤ b0 ∧ b0 < 224 ∧ mor L 1 b1 then 2
  else if 224 ≤ b0 ∧ b0 < 240 ∧ mor L 1 b1 ∧ mor L 2 b2 ∧ 2048 ≤ c3 b0 b1 b2 ∧ (c3 b0 b1 b2 < 55296 ∨ 57343 < c3 b0 b1 b2) then 3
  else if 240 ≤ b0 ∧ b0 < 245 ∧ mor L 1 b1 ∧ mor L 2 b2 ∧ mor L 3 b3 ∧ 65536 ≤ c4 b0 b1 b2 b3 ∧ c4 b0 b1 b2 b3 ≤ 1114111 then 4
  else 0
set_option maxHeartbeats 4000000 in
theorem runeM_runR {s : Str} {i : Nat} (h : i < s.length) : runeM s i = runR (s.length - i) (bt s i) (bt s (i + 1)) (bt s (i + 2)) (bt s (i + 3)) := by
  unfold runeM runR
  simp only [moreM_iff, byteM_in h]
  by_cases h1 : i + 1 < s.length
  · by_cases h2 : i + 2 < s.length
    · by_cases h3 : i + 3 < s.length
      · simp only [byteM_in h1, byteM_in h2, byteM_in h3, mor, c3, c4]
        repeat' split
        all_goals first | rfl | (exfalso; omega)
      · simp only [byteM_in h1, byteM_in h2, mor, c3, c4]
        repeat' split
        all_goals first | rfl | (exfalso; omega)
    · simp only [byteM_in h1, mor, c3, c4]
      repeat' split
      all_goals first | rfl | (exfalso; omega)
  · simp only [mor, c3, c4]
    repeat' split
    all_goals first | rfl | (exfalso; omega)

theorem b8_bt (s : Str) (i : Nat) (h : i < s.length) : UInt8.ofNat (bt s i) = s[i] := by
  unfold bt
  rw [List.getD_eq_getElem?_getD, List.getElem?_eq_getElem h]; simp
theorem take_one {s : Str} {i : Nat} (h : i < s.length) : (s.drop i).take 1 = [UInt8.ofNat (bt s i)] := by
  rw [b8_bt s i h, List.drop_eq_getElem_cons h]; rfl
theorem take_step {s : Str} {i n : Nat} (h : i < s.length) : (s.drop i).take (n + 1) = UInt8.ofNat (bt s i) :: (s.drop (i + 1)).take n := by
  rw [b8_bt s i h, List.drop_eq_getElem_cons h]; rfl

set_option maxHeartbeats 4000000 in
/-- no rune begins there: U+FFFD of one byte -/
theorem rune_bad {s : Str} {i : Nat} (h : i < s.length) (h0 : runeM s i = 0) : Utf8.decode (ofL s) i = (65533, 1) := by
  rw [dec_ofL, dec_decR (bt_lt _ _) (bt_lt _ _) (bt_lt _ _) (bt_lt _ _)]
  rw [runeM_runR h] at h0
  unfold runR at h0
  unfold decR
  repeat' split at h0
  all_goals first | (exfalso; omega) | skip
  all_goals (repeat rw [if_neg (by assumption)])
structure RuneAt (s : Str) (i n c : Nat) : Prop where
  dec : Utf8.decode (ofL s) i = (c, n)
  fits : i + n ≤ s.length
  small : n ≤ 4
  bytes : Lib.encodeRune c = (s.drop i).take n
  low : n = 1 → c = bt s i ∧ c < 128
  high : 2 ≤ n → 128 ≤ c ∧ 128 ≤ bt s i
  top : c ≤ 1114111
  val : c < 55296 ∨ 57343 < c
theorem enc_map (l : List Int) : (l.map fun x => x.toNat.toUInt8) = l.map fun x => UInt8.ofNat x.toNat := rfl
set_option maxHeartbeats 8000000 in
theorem rune_good {s : Str} {i : Nat} (h : i < s.length) (h0 : runeM s i ≠ 0) : ∃ c, RuneAt s i (runeM s i) c := by
  have e := dec_ofL s i
  rw [dec_decR (bt_lt _ _) (bt_lt _ _) (bt_lt _ _) (bt_lt _ _)] at e
  have hr := runeM_runR h
  have l0 := bt_lt s i
  generalize hn : runeM s i = n at *
  unfold runR at hr
  unfold decR at e
  by_cases a1 : bt s i < 128
  · rw [if_pos a1] at hr e
    subst hr
    refine ⟨_, e, by omega, by omega, ?_, fun _ => ⟨rfl, a1⟩, fun h => by omega, by omega, by omega⟩
    rw [take_one h, Lib.encodeRune, Lib.encodeRuneZ_one (by omega) (by omega)]
    simp
  rw [if_neg a1] at hr e
  by_cases a2 : 194 ≤ bt s i ∧ bt s i < 224 ∧ mor (s.length - i) 1 (bt s (i + 1))
  · rw [if_pos a2] at hr e
    subst hr
    obtain ⟨a2, a3, a4, a5, a6⟩ := a2
    refine ⟨_, e, by omega, by omega, ?_, fun h => by omega, fun h => by omega, by omega, by omega⟩
    rw [take_step h, take_one (by omega), Lib.encodeRune, Lib.encodeRuneZ_two (by omega) (by omega)]
    simp only [List.map_cons, List.map_nil, enc_map]
    rw [show ((192 : Int) + (((bt s i - 192) * 64 + (bt s (i + 1) - 128) : Nat) : Int) / 64).toNat = bt s i by omega, show ((128 : Int) + (((bt s i - 192) * 64 + (bt s (i + 1) - 128) : Nat) : Int) % 64).toNat = bt s (i + 1) by omega]
  rw [if_neg a2] at hr e
  by_cases a3 : 224 ≤ bt s i ∧ bt s i < 240 ∧ mor (s.length - i) 1 (bt s (i + 1)) ∧ mor (s.length - i) 2 (bt s (i + 2)) ∧ 2048 ≤ c3 (bt s i) (bt s (i + 1)) (bt s (i + 2)) ∧ (c3 (bt s i) (bt s (i + 1)) (bt s (i + 2)) < 55296 ∨ 57343 < c3 (bt s i) (bt s (i + 1)) (bt s (i + 2)))
  · rw [if_pos a3] at hr e
    subst hr
    obtain ⟨p1, p2, ⟨p3, p4, p5⟩, ⟨p6, p7, p8⟩, p9, p10⟩ := a3
    have q3 : c3 (bt s i) (bt s (i + 1)) (bt s (i + 2)) = (bt s i - 224) * 4096 + (bt s (i + 1) - 128) * 64 + (bt s (i + 2) - 128) := rfl
    refine ⟨_, e, by omega, by omega, ?_, fun h => by omega, fun h => by omega, by omega, by omega⟩
    rw [take_step h, take_step (by omega), take_one (by omega), Lib.encodeRune, Lib.encodeRuneZ_three (by omega)]
    simp only [List.map_cons, List.map_nil, enc_map]
    rw [show ((224 : Int) + ((c3 (bt s i) (bt s (i + 1)) (bt s (i + 2)) : Nat) : Int) / 4096).toNat = bt s i by unfold c3; omega, show ((128 : Int) + ((c3 (bt s i) (bt s (i + 1)) (bt s (i + 2)) : Nat) : Int) / 64 % 64).toNat = bt s (i + 1) by unfold c3; omega, show ((128 : Int) + ((c3 (bt s i) (bt s (i + 1)) (bt s (i + 2)) : Nat) : Int) % 64).toNat = bt s (i + 2) by unfold c3; omega]
  rw [if_neg a3] at hr e
  by_cases a4 : 240 ≤ bt s i ∧ bt s i < 245 ∧ mor (s.length - i) 1 (bt s (i + 1)) ∧ mor (s.length - i) 2 (bt s (i + 2)) ∧ mor (s.length - i) 3 (bt s (i + 3)) ∧ 65536 ≤ c4 (bt s i) (bt s (i + 1)) (bt s (i + 2)) (bt s (i + 3)) ∧ c4 (bt s i) (bt s (i + 1)) (bt s (i + 2)) (bt s (i + 3)) ≤ 1114111
  · rw [if_pos a4] at hr e
    subst hr
    obtain ⟨p1, p2, ⟨p3, p4, p5⟩, ⟨p6, p7, p8⟩, ⟨p9, p10, p11⟩, p12, p13⟩ := a4
    refine ⟨_, e, by omega, by omega, ?_, fun h => by omega, fun h => by omega, by omega, by omega⟩
    rw [take_step h, take_step (by omega), take_step (by omega), take_one (by omega), Lib.encodeRune, Lib.encodeRuneZ_four (by omega) (by omega)]
    simp only [List.map_cons, List.map_nil, enc_map]
    rw [show ((240 : Int) + ((c4 (bt s i) (bt s (i + 1)) (bt s (i + 2)) (bt s (i + 3)) : Nat) : Int) / 262144).toNat = bt s i by unfold c4; omega, show ((128 : Int) + ((c4 (bt s i) (bt s (i + 1)) (bt s (i + 2)) (bt s (i + 3)) : Nat) : Int) / 4096 % 64).toNat = bt s (i + 1) by unfold c4; omega, show ((128 : Int) + ((c4 (bt s i) (bt s (i + 1)) (bt s (i + 2)) (bt s (i + 3)) : Nat) : Int) / 64 % 64).toNat = bt s (i + 2) by unfold c4; omega, show ((128 : Int) + ((c4 (bt s i) (bt s (i + 1)) (bt s (i + 2)) (bt s (i + 3)) : Nat) : Int) % 64).toNat = bt s (i + 3) by unfold c4; omega]
  rw [if_neg a4] at hr
  exact absurd hr h0
/-- in a round over a text: at least one byte further on -/
def stepM (s : Str) (i : Nat) : Nat := max (runeM s i) 1
theorem dec_step {s : Str} {i : Nat} (h : i < s.length) : (Utf8.decode (ofL s) i).2 = stepM s i := by
  unfold stepM
  by_cases h0 : runeM s i = 0
  · rw [rune_bad h h0, h0]; rfl
  · obtain ⟨c, hc⟩ := rune_good h h0
    rw [hc.dec]
    show runeM s i = max (runeM s i) 1
    omega
theorem step_fits {s : Str} {i : Nat} (h : i < s.length) : i + stepM s i ≤ s.length := by
  unfold stepM
  by_cases h0 : runeM s i = 0
  · rw [h0]; show i + 1 ≤ _; omega
  · obtain ⟨c, hc⟩ := rune_good h h0
    have := hc.fits
    omega
theorem step_pos (s : Str) (i : Nat) : 1 ≤ stepM s i := by unfold stepM; omega
theorem rune_end {s : Str} {i : Nat} (h : s.length ≤ i) : runeM s i = 0 := by
  unfold runeM
  simp only [byteM_out h]
  rfl
/-- a rune's number written -/
theorem wr_enc {n : Nat} (h : n < 55296 ∨ 57343 < n ∧ n ≤ 1114111) : Lib.encodeRune n = wrM n := by
  unfold Lib.encodeRune wrM b8
  by_cases h1 : n < 128
  · rw [Lib.encodeRuneZ_one (by omega) (by omega), if_pos h1]; simp
  rw [if_neg h1]
  by_cases h2 : n < 2048
  · rw [Lib.encodeRuneZ_two (by omega) (by omega), if_pos h2]
    simp only [List.map_cons, List.map_nil, enc_map]
    rw [show ((192 : Int) + (n : Int) / 64).toNat = 192 + n / 64 by omega, show ((128 : Int) + (n : Int) % 64).toNat = 128 + n % 64 by omega]
  rw [if_neg h2]
  by_cases h3 : n < 65536
  · rw [Lib.encodeRuneZ_three (by omega), if_pos h3]
    simp only [List.map_cons, List.map_nil, enc_map]
    rw [show ((224 : Int) + (n : Int) / 4096).toNat = 224 + n / 4096 by omega, show ((128 : Int) + (n : Int) / 64 % 64).toNat = 128 + n / 64 % 64 by omega, show ((128 : Int) + (n : Int) % 64).toNat = 128 + n % 64 by omega]
  · rw [Lib.encodeRuneZ_four (by omega) (by omega), if_neg h3]
    simp only [List.map_cons, List.map_nil, enc_map]
    rw [show ((240 : Int) + (n : Int) / 262144).toNat = 240 + n / 262144 by omega, show ((128 : Int) + (n : Int) / 4096 % 64).toNat = 128 + n / 4096 % 64 by omega, show ((128 : Int) + (n : Int) / 64 % 64).toNat = 128 + n / 64 % 64 by omega, show ((128 : Int) + (n : Int) % 64).toNat = 128 + n % 64 by omega]
end Go.Eng

namespace Go.Proofs.YtcnjpcadejcenaaGreatDoor
open Go Go.Eng Go.RowKit
set_option maxRecDepth 100000
abbrev u8 (n : Nat) : Value := .int .u8 (n : Int)
theorem or192 : ∀ x : Fin 32, IntKind.u8.wrap (BitVec.ofInt IntKind.u8.bits 192 ||| BitVec.ofInt IntKind.u8.bits ((x.val : Nat) : Int)).toNat = ((192 + x.val : Nat) : Int) := by decide +kernel
theorem or224 : ∀ x : Fin 16, IntKind.u8.wrap (BitVec.ofInt IntKind.u8.bits 224 ||| BitVec.ofInt IntKind.u8.bits ((x.val : Nat) : Int)).toNat = ((224 + x.val : Nat) : Int) := by decide +kernel
theorem or240 : ∀ x : Fin 8, IntKind.u8.wrap (BitVec.ofInt IntKind.u8.bits 240 ||| BitVec.ofInt IntKind.u8.bits ((x.val : Nat) : Int)).toNat = ((240 + x.val : Nat) : Int) := by decide +kernel
theorem or128 : ∀ x : Fin 64, IntKind.u8.wrap (BitVec.ofInt IntKind.u8.bits 128 ||| BitVec.ofInt IntKind.u8.bits ((x.val : Nat) : Int)).toNat = ((128 + x.val : Nat) : Int) := by decide +kernel
theorem and63 : ∀ x : Fin 256, IntKind.u8.wrap (BitVec.ofInt IntKind.u8.bits ((x.val : Nat) : Int) &&& BitVec.ofInt IntKind.u8.bits 63).toNat = ((x.val % 64 : Nat) : Int) := by decide +kernel
theorem u8_wrap (n : Nat) : IntKind.u8.wrap (n : Int) = ((n % 256 : Nat) : Int) := by
  simp only [IntKind.wrap, IntKind.bits, IntKind.signed, Bool.false_and]
  rw [show (2 : Int) ^ 8 = 256 by decide]
  simp
theorem u32_wrap {n : Nat} (h : n < 4294967296) : IntKind.u32.wrap (n : Int) = (n : Int) := by
  simp only [IntKind.wrap, IntKind.bits, IntKind.signed, Bool.false_and]
  rw [show (2 : Int) ^ 32 = 4294967296 by decide]
  simp only [Bool.false_eq_true, if_false]
  omega
theorem shr_n (r k : Nat) (hk : k ≤ 32) (K : Value → Prop) : binW .shr (.int .i32 (r : Int)) (.int .u64 (k : Int)) K ↔ K (.int .i32 ((r / 2 ^ k : Nat) : Int)) := by
  have e : (r : Int).fdiv (2 ^ min (k : Int).toNat IntKind.i32.bits) = ((r / 2 ^ k : Nat) : Int) := by
    rw [Int.toNat_natCast, show min k IntKind.i32.bits = k from Nat.min_eq_left hk, Int.fdiv_eq_ediv_of_nonneg _ (by exact Int.le_of_lt (Int.pow_pos (by decide)))]
    rw [Int.natCast_ediv, Int.natCast_pow]; rfl
  simp only [binW]
  rw [e]
  constructor
  · exact fun h => h.2
  · exact fun h => ⟨by omega, h⟩
/-- the last bits of a number behind 128 -/
theorem tail_n (x : Nat) (K : Value → Prop) : (cvtW .u8 (.int .i32 (x : Int)) fun t => binW .and t (.int .u8 63) fun t => binW .or (.int .u8 128) t K) ↔ K (u8 (128 + x % 64)) := by
  rw [cvt_int, u8_wrap, bin_and, and63 ⟨x % 256, by omega⟩, bin_or, or128 ⟨x % 256 % 64, by omega⟩]
  simp only
  rw [show x % 256 % 64 = x % 64 by omega]
theorem row2 {w : World} {a b : Nat} {K : Value → World → Prop} (hK : ∀ t w', SlAt w' U8 t 2 [u8 a, u8 b] → Ext w w' → K t w') : bslW U8 2 [(.int .u8 0), (.int .u8 0)] [(0, 1, u8 a), (1, 1, u8 b)] w K := by
  rw [bslW]
  simp only [put_int, put_nil, List.length_cons, List.length_nil, List.set_cons_zero, List.set_cons_succ]
  refine ⟨by omega, by omega, ?_⟩
  refine hK _ _ ⟨_, _, rfl, Nat.le_refl _, fun e => (by cases e), fun _ => ⟨_, _, _, _, rfl, heap_anew _ _ _ rfl, fun i _ => by rw [Nat.zero_add]; simp⟩⟩ (Chg.alloc (Chg.refl _ _) _)
theorem row3 {w : World} {a b c : Nat} {K : Value → World → Prop} (hK : ∀ t w', SlAt w' U8 t 3 [u8 a, u8 b, u8 c] → Ext w w' → K t w') : bslW U8 3 [(.int .u8 0), (.int .u8 0), (.int .u8 0)] [(0, 1, u8 a), (1, 1, u8 b), (2, 1, u8 c)] w K := by
  rw [bslW]
  simp only [put_int, put_nil, List.length_cons, List.length_nil, List.set_cons_zero, List.set_cons_succ]
  refine ⟨by omega, by omega, by omega, ?_⟩
  refine hK _ _ ⟨_, _, rfl, Nat.le_refl _, fun e => (by cases e), fun _ => ⟨_, _, _, _, rfl, heap_anew _ _ _ rfl, fun i _ => by rw [Nat.zero_add]; simp⟩⟩ (Chg.alloc (Chg.refl _ _) _)
theorem row4 {w : World} {a b c d : Nat} {K : Value → World → Prop} (hK : ∀ t w', SlAt w' U8 t 4 [u8 a, u8 b, u8 c, u8 d] → Ext w w' → K t w') : bslW U8 4 [(.int .u8 0), (.int .u8 0), (.int .u8 0), (.int .u8 0)] [(0, 1, u8 a), (1, 1, u8 b), (2, 1, u8 c), (3, 1, u8 d)] w K := by
  rw [bslW]
  simp only [put_int, put_nil, List.length_cons, List.length_nil, List.set_cons_zero, List.set_cons_succ]
  refine ⟨by omega, by omega, by omega, by omega, ?_⟩
  refine hK _ _ ⟨_, _, rfl, Nat.le_refl _, fun e => (by cases e), fun _ => ⟨_, _, _, _, rfl, heap_anew _ _ _ rfl, fun i _ => by rw [Nat.zero_add]; simp⟩⟩ (Chg.alloc (Chg.refl _ _) _)
theorem u8s_nat (l : List Nat) (h : ∀ x ∈ l, x < 256) : u8s (l.map b8) = l.map u8 := by
  unfold u8s
  rw [List.map_map]
  apply List.map_congr_left
  intro x hx
  have := h x hx
  simp only [Function.comp, b8, UInt8.toNat_ofNat', u8]
  rw [Nat.mod_eq_of_lt (by omega)]
section
variable [HX]
/-- a rune behind a row that the call owns -/
theorem arune_p {w : World} {B r : Nat} {l : Str} {v : Value} {K : Value → World → Prop} (hO : Own w B U8 1 v l.length (u8s l)) (hB : B ≤ w.heap.size) (hl : l.length + 4 ≤ 140737488355328) (hr : r < 55296 ∨ 57343 < r ∧ r ≤ 1114111)
    (hK : ∀ v' w', Own w' B U8 1 v' (l ++ wrM r).length (u8s (l ++ wrM r)) → (∀ k, ¬ OwnS w B U8 k → k < w.heap.size → w'.heap[k]? = w.heap[k]?) → Chg (fun k => v.ownBlock = some k) w w' → K v' w') :
    callF Tryz.prog 185 [v, .int .i32 (r : Int)] w K := by
  have fin : ∀ (bs : List Nat) (t : Value) (w1 : World), wrM r = bs.map b8 → (∀ x ∈ bs, x < 256) → bs.length ≤ 4 → SlAt w1 U8 t bs.length (bs.map u8) → Ext w w1 → semE Tryz.prog (Builtin.append_ #[44, 44] 44 #[v, t]) w1 K := by
    intro bs t w1 he hlt hlen ht hx
    refine append_own2 elem_u8 (hO.ext hx) ht (m := bs.length) (by simp) (fun u hu => by simp only [List.mem_map] at hu; obtain ⟨x, _, rfl⟩ := hu; rfl) (by omega) (by omega) (by have := hx.size; omega) fun v' w3 hO3 hc3 _ => ?_
    have hc : Chg (fun k => v.ownBlock = some k) w w3 := (Chg.of_ext hx).trans hc3
    refine hK v' w3 ?_ (fun k hk hlt => hc.heap k hlt fun e => hk (hO.block k e)) hc
    rw [u8s_app, he, u8s_nat bs hlt, List.length_append, List.length_map]
    exact hO3
  refine W185_ok ?_
  unfold W185
  rw [cvt_int, u32_wrap (by omega), bin_leq, condW_dec]
  refine ⟨fun h => ?_, fun h => ?_⟩
  · rw [cvt_int, u8_wrap, Nat.mod_eq_of_lt (by omega)]
    refine row_u8 fun t w1 ht hx => ?_
    refine fin [r] t w1 ?_ (fun x hx => by simp only [List.mem_singleton] at hx; omega) (by simp) ht hx
    unfold wrM; rw [if_pos (by omega)]; rfl
  refine W223_ok ?_
  unfold W223
  rw [cvt_int, u32_wrap (by omega), bin_leq, condW_dec]
  refine ⟨fun h2 => ?_, fun h2 => ?_⟩
  · rw [show (6 : Int) = ((6 : Nat) : Int) from rfl, shr_n r 6 (by omega), cvt_int, u8_wrap, show r / 2 ^ 6 % 256 = r / 64 by omega, bin_or, or192 ⟨r / 64, by omega⟩, tail_n]
    refine row2 fun t w1 ht hx => ?_
    refine fin [192 + r / 64, 128 + r % 64] t w1 ?_ (fun x hx => by simp only [List.mem_cons, List.not_mem_nil, or_false] at hx; omega) (by simp) ht hx
    unfold wrM; rw [if_neg (by omega), if_pos (by omega)]; rfl
  refine JoinW.cut (fun s' w' => s' = [.bool (decide (r ≤ 65535))] ∧ w' = w) ?_ ?_
  · rw [bin_lss, condW_dec]
    refine ⟨fun h3 => ?_, fun h3 => ?_⟩
    · rw [decide_eq_true h3, decide_eq_true (by omega)]; exact ⟨rfl, rfl⟩
    · rw [bin_lss, decide_eq_true (show (57343 : Int) < (r : Int) by omega)]
      refine GdW.look (decide (r ≤ 65535)) (fun _ J hJ => ?_) fun g => ?_
      · rw [bin_leq]
        rw [show decide ((r : Int) ≤ 65535) = decide (r ≤ 65535) by rw [decide_eq_decide]; omega]
        exact hJ
      · exact ⟨rfl, rfl⟩
  rintro s' g w' ⟨rfl, rfl⟩
  simp only [List.getD_cons_zero]
  rw [condW_dec]
  refine ⟨fun h3 => ?_, fun h3 => ?_⟩
  · rw [show (12 : Int) = ((12 : Nat) : Int) from rfl, shr_n r 12 (by omega), cvt_int, u8_wrap, show r / 2 ^ 12 % 256 = r / 4096 by omega, bin_or, or224 ⟨r / 4096, by omega⟩, show (6 : Int) = ((6 : Nat) : Int) from rfl, shr_n r 6 (by omega), tail_n, tail_n]
    refine row3 fun t w1 ht hx => ?_
    refine fin [224 + r / 4096, 128 + r / 64 % 64, 128 + r % 64] t w1 ?_ (fun x hx => by simp only [List.mem_cons, List.not_mem_nil, or_false] at hx; omega) (by simp) ht hx
    unfold wrM; rw [if_neg (by omega), if_neg (by omega), if_pos (by omega)]; rfl
  rw [bin_gtr, decide_eq_true (show (65535 : Int) < (r : Int) by omega)]
  refine GdW.look true (fun _ J hJ => ?_) fun g => ?_
  · rw [bin_leq, decide_eq_true (show (r : Int) ≤ 1114111 by omega)]; exact hJ
  show condW (.bool true) _ _
  rw [condW_true]
  rw [show (18 : Int) = ((18 : Nat) : Int) from rfl, shr_n r 18 (by omega), cvt_int, u8_wrap, show r / 2 ^ 18 % 256 = r / 262144 by omega, bin_or, or240 ⟨r / 262144, by omega⟩, show (12 : Int) = ((12 : Nat) : Int) from rfl, shr_n r 12 (by omega), tail_n, show (6 : Int) = ((6 : Nat) : Int) from rfl, shr_n r 6 (by omega), tail_n, tail_n]
  refine row4 fun t w1 ht hx => ?_
  refine fin [240 + r / 262144, 128 + r / 4096 % 64, 128 + r / 64 % 64, 128 + r % 64] t w1 ?_ (fun x hx => by simp only [List.mem_cons, List.not_mem_nil, or_false] at hx; omega) (by simp) ht hx
  unfold wrM; rw [if_neg (by omega), if_neg (by omega), if_neg (by omega)]; rfl
theorem wr_len (r : Nat) : (wrM r).length ≤ 4 := by unfold wrM; repeat' split
                                                    all_goals simp
theorem wrune_p {w : World} {B b r : Nat} {l : Str} {K : Value → World → Prop} (h : Bld w B b l) (hB : B ≤ w.heap.size) (hl : l.length + 4 ≤ 140737488355328) (hr : r < 55296 ∨ 57343 < r ∧ r ≤ 1114111)
    (hK : ∀ v w', Bld w' B b (l ++ wrM r) → Chg (BCh w B b) w w' → K v w') : callF Tryz.prog 155 [.pointer (some ⟨b, 0, none⟩), .int .i32 (r : Int)] w K := by
  have hb := h.base
  refine W155_ok ?_
  unfold W155
  refine check_p h fun v w1 h1 hO hz hc => ?_
  have hc1 : w1.cell? (⟨b, 0, none⟩ : Addr) |>.isSome := by rw [cell_eq, h1]; rfl
  rw [nil_ptr, fld_ptr, ld_one]
  refine ⟨v, by rw [add_mk, cell_eq, h1]; rfl, ?_⟩
  rw [lenl_at hO.sl, nil_ptr, fld_ptr, ld_one]
  refine ⟨v, by rw [add_mk, cell_eq, h1]; rfl, ?_⟩
  refine arune_p hO (by omega) hl hr fun v' w2 hO2 _ hc2 => ?_
  rw [nil_ptr, fld_ptr]
  refine bstore (n := 0) h1 hO hb hc2 hO2 fun w4 hb4 hc4 _ => ?_
  obtain ⟨p, v4, h4, _, hO4, _⟩ := id hb4
  rw [nil_ptr, fld_ptr, ld_one]
  refine ⟨v4, by rw [add_mk, cell_eq, h4]; rfl, ?_⟩
  rw [lenl_at hO4.sl, bin_sub]
  exact hK _ w4 hb4 (BCh.trans hc hc4)
end
end Go.Proofs.YtcnjpcadejcenaaGreatDoor

namespace Go.Eng
open Go
mutual
/-- how many values it has -/
def cntM : JV → Nat
  | .mk _ _ _ xs _ => 1 + cntL xs
def cntL : List JV → Nat
  | [] => 0
  | x :: xs => cntM x + cntL xs
end
theorem cnt_pos (v : JV) : 1 ≤ cntM v := by cases v; simp only [cntM]; omega
theorem showM_eq (k : Int) (b : Bool) (t : Str) (xs : List JV) (ks : List Str) : showM (.mk k b t xs ks) = (if k = 0 then [110, 117, 108, 108] else if k = 2 then (if b then [116, 114, 117, 101] else [102, 97, 108, 115, 101]) else if k = 3 then t else if k = 4 then quoteM t
    else if k = 6 then [123] ++ joinM (List.zipWith (fun a b => quoteM a ++ [58] ++ b) ks (showL xs)) ++ [125] else [91] ++ joinM (showL xs) ++ [93]) := by rw [showM]
theorem byte_at {s r : Str} {i : Nat} {c : UInt8} (h : s.drop i = c :: r) : byteM s i = c.toNat := by
  unfold byteM
  have : s[i]? = some c := by
    have := List.getElem?_drop (xs := s) (i := i) (j := 0)
    rw [h] at this
    simpa using this.symm
  rw [this]
theorem byte_end {s : Str} {i : Nat} (h : s.drop i = []) : byteM s i = -1 := by
  unfold byteM
  rw [List.getElem?_eq_none (List.drop_eq_nil_iff.1 h)]
theorem drop_app {s l r : Str} {i : Nat} (h : s.drop i = l ++ r) : s.drop (i + l.length) = r := by
  rw [← List.drop_drop, h, List.drop_left]
theorem drop_cons {s r : Str} {i : Nat} {c : UInt8} (h : s.drop i = c :: r) : s.drop (i + 1) = r := drop_app (l := [c]) h
theorem drop_lt {s r : Str} {i : Nat} {c : UInt8} (h : s.drop i = c :: r) : i < s.length := by
  apply Nat.lt_of_not_le
  intro hle
  rw [List.drop_eq_nil_iff.2 hle] at h
  cases h
theorem blank_stop {s : Str} {i : Nat} (h : isBlank (byteM s i) = false) : blankM s i = i := by
  unfold blankM
  cases s.length - i with
  | zero => rfl
  | succ n => rw [blankGo, h]; rfl
theorem blank_step {s r : Str} {i : Nat} {c : UInt8} (h : s.drop i = c :: r) (hc : isBlank c.toNat = true) : blankM s i = blankM s (i + 1) := by
  have hlt := drop_lt h
  unfold blankM
  rw [show s.length - i = (s.length - (i + 1)) + 1 by omega, blankGo, byte_at h, hc]
  rfl
/-- blanks are gone by -/
theorem blank_over {s r : Str} {l : Str} : ∀ {i : Nat}, s.drop i = l ++ r → (∀ c ∈ l, isBlank (c.toNat : Int) = true) → blankM s i = blankM s (i + l.length) := by
  induction l with
  | nil => intro i _ _; rfl
  | cons c l ih =>
    intro i h hb
    rw [blank_step h (hb c List.mem_cons_self), ih (i := i + 1) (drop_cons h) fun x hx => hb x (List.mem_cons_of_mem _ hx), List.length_cons]
    congr 1
    omega
theorem word_at {s w r : Str} {i : Nat} (h : s.drop i = w ++ r) : wordM s i w = true := by
  unfold wordM
  rw [h, List.take_left]
  simp
theorem word_not {s w r : Str} {i : Nat} {c d : UInt8} {w' : Str} (h : s.drop i = c :: r) (hw : w = d :: w') (hne : c ≠ d) : wordM s i w = false := by
  unfold wordM
  rw [h, hw]
  refine decide_eq_false fun e => hne ?_
  simp at e
  exact e.1
end Go.Eng

namespace Go.Eng
open Go

theorem byte_pref {s u r : Str} {i j : Nat} (h : s.drop i = u ++ r) (hj : j < u.length) : byteM s (i + j) = u[j].toNat := by
  have : s.drop (i + j) = u[j] :: (u.drop (j + 1) ++ r) := by
    rw [← List.drop_drop, h, List.drop_append_of_le_length (by omega), List.drop_eq_getElem_cons hj]; rfl
  exact byte_at this
theorem rune_same {s t : Str} {i k m : Nat} (hm : 0 < m) (h : runeM s i = m) (hb : ∀ j, j < m → byteM t (k + j) = byteM s (i + j)) : runeM t k = m := by
  have e0 : byteM t k = byteM s i := hb 0 hm
  unfold runeM at h ⊢
  dsimp only at h
  simp only [e0]
  by_cases h1 : m = 1
  · subst h1
    split at h
    · omega
    rename_i a
    split at h
    · rename_i b; rw [if_neg a, if_pos b]
    split at h
    · omega
    split at h
    · omega
    split at h <;> omega
  by_cases h2 : m = 2
  · subst h2
    have e1 := hb 1 (by omega)
    have m1 : moreM t (k + 1) = moreM s (i + 1) := by unfold moreM; rw [e1]
    simp only [m1]
    split at h
    · omega
    rename_i a
    split at h
    · omega
    rename_i b
    split at h
    · rename_i c; rw [if_neg a, if_neg b, if_pos c]
    split at h
    · omega
    split at h <;> omega
  by_cases h3 : m = 3
  · subst h3
    have e1 := hb 1 (by omega)
    have e2 := hb 2 (by omega)
    have m1 : moreM t (k + 1) = moreM s (i + 1) := by unfold moreM; rw [e1]
    have m2 : moreM t (k + 2) = moreM s (i + 2) := by unfold moreM; rw [e2]
    simp only [m1, m2, e1, e2]
    split at h
    · omega
    rename_i a
    split at h
    · omega
    rename_i b
    split at h
    · omega
    rename_i c
    split at h
    · rename_i d; rw [if_neg a, if_neg b, if_neg c, if_pos d]
    split at h <;> omega
  by_cases h4 : m = 4
  · subst h4
    have e1 := hb 1 (by omega)
    have e2 := hb 2 (by omega)
    have e3 := hb 3 (by omega)
    simp only [moreM, e1, e2, e3] at h ⊢
    exact h
  · exfalso
    split at h
    · omega
    split at h
    · omega
    split at h
    · omega
    split at h
    · omega
    split at h <;> omega
theorem rune_lt {s : Str} {i : Nat} (h : runeM s i ≠ 0) : i < s.length := by
  apply Nat.lt_of_not_le
  intro hle
  exact h (rune_end hle)
theorem rune_fits {s : Str} {i : Nat} (h : runeM s i ≠ 0) : i + runeM s i ≤ s.length := by
  obtain ⟨c, hc⟩ := rune_good (rune_lt h) h
  exact hc.fits

/-- the bytes of just one rune -/
def Rn (u : Str) : Prop := u ≠ [] ∧ runeM u 0 = u.length
theorem Rn.pos {u : Str} (h : Rn u) : 0 < u.length := List.length_pos_iff.2 h.1
theorem Rn.at {u s r : Str} {i : Nat} (h : Rn u) (hs : s.drop i = u ++ r) : runeM s i = u.length := by
  refine rune_same (s := u) (i := 0) h.pos h.2 fun j hj => ?_
  rw [byte_pref hs hj, byte_pref (s := u) (i := 0) (u := u) (r := []) (by simp) hj]
theorem Rn.of {s : Str} {i : Nat} (h : runeM s i ≠ 0) : Rn ((s.drop i).take (runeM s i)) := by
  have hf := rune_fits h
  have hl : ((s.drop i).take (runeM s i)).length = runeM s i := by rw [List.length_take, List.length_drop]; omega
  refine ⟨fun e => by rw [e] at hl; simp at hl; omega, ?_⟩
  rw [hl]
  refine rune_same (s := s) (i := i) (by omega) rfl fun j hj => ?_
  rw [byte_pref (s := s) (i := i) (u := (s.drop i).take (runeM s i)) (r := (s.drop i).drop (runeM s i)) (List.take_append_drop _ _).symm (by omega), byte_pref (s := (s.drop i).take (runeM s i)) (i := 0) (u := (s.drop i).take (runeM s i)) (r := []) (by simp) (by omega)]
/-- UTF-8 -/
inductive Utf : Str → Prop where
  | nil : Utf []
  | cons {u r : Str} : Rn u → Utf r → Utf (u ++ r)
theorem Utf.app {a b : Str} (h : Utf a) (h' : Utf b) : Utf (a ++ b) := by
  induction h with
  | nil => exact h'
  | cons hu _ ih => rw [List.append_assoc]; exact .cons hu ih
theorem Utf.one {u : Str} (h : Rn u) : Utf u := by have := Utf.cons h .nil; rwa [List.append_nil] at this
theorem utf_of {s : Str} : ∀ {n i : Nat}, utfGo s n i = true → Utf (s.drop i) := by
  intro n
  induction n with
  | zero =>
    intro i h
    rw [utfGo, decide_eq_true_eq] at h
    rw [List.drop_of_length_le h]
    exact .nil
  | succ n ih =>
    intro i h
    rw [utfGo] at h
    split at h
    · rename_i hl; rw [List.drop_of_length_le hl]; exact .nil
    · split at h
      · cases h
      · rename_i h0
        have := Utf.cons (Rn.of h0) (ih h)
        rwa [← List.drop_drop, List.take_append_drop] at this
theorem of_utf {t : Str} (h : Utf t) : ∀ {s : Str} {n i : Nat}, s.drop i = t → t.length ≤ n → utfGo s n i = true := by
  induction h with
  | nil =>
    intro s n i hs _
    have hl := List.drop_eq_nil_iff.1 hs
    cases n with
    | zero => rw [utfGo, decide_eq_true_eq]; exact hl
    | succ n => rw [utfGo, if_pos hl]
  | @cons u r hu _ ih =>
    intro s n i hs hn
    have hp := hu.pos
    rw [List.length_append] at hn
    have hr := hu.at hs
    cases n with
    | zero => omega
    | succ n =>
      rw [utfGo]
      split
      · rfl
      · rw [if_neg (by omega), hr]
        exact ih (drop_app hs) (by omega)
theorem utf_iff (s : Str) : utfM s = true ↔ Utf s := by
  unfold utfM
  constructor
  · intro h; have := utf_of h; rwa [List.drop_zero] at this
  · intro h; exact of_utf h (List.drop_zero ..) (Nat.le_refl _)
/-- a rune that is one byte, or bytes from 128 on -/
theorem Rn.cases {u : Str} (h : Rn u) : (∃ c : UInt8, u = [c] ∧ c.toNat < 128) ∨ (∀ c ∈ u, 128 ≤ c.toNat) := by
  have hr := h.2
  have hp := h.pos
  have hb : ∀ j, (hj : j < u.length) → byteM u j = u[j].toNat := fun j hj => by
    have := byte_pref (s := u) (i := 0) (u := u) (r := []) (by simp) hj
    rwa [Nat.zero_add] at this
  have hm : ∀ j, (hj : j < u.length) → moreM u j = true → 128 ≤ u[j].toNat := fun j hj hm => by
    unfold moreM at hm
    rw [hb j hj, Bool.and_eq_true, decide_eq_true_iff, decide_eq_true_iff] at hm
    omega
  unfold runeM at hr
  rw [hb 0 hp] at hr
  simp only [Nat.zero_add] at hr
  have hall : (∀ j, (hj : j < u.length) → 128 ≤ u[j].toNat) → ∀ c ∈ u, 128 ≤ c.toNat := fun hj c hc => by
    obtain ⟨j, h1, rfl⟩ := List.getElem_of_mem hc
    exact hj j h1
  split at hr
  · omega
  split at hr
  · rename_i hlt
    left
    obtain ⟨c, rfl⟩ := List.length_eq_one_iff.1 hr.symm
    refine ⟨c, rfl, ?_⟩
    have e : ([c] : Str)[0].toNat = c.toNat := rfl
    omega
  right
  refine hall fun j hj => ?_
  split at hr
  · rename_i c
    obtain ⟨c1, _, c2⟩ := c
    obtain rfl | rfl : j = 0 ∨ j = 1 := by omega
    · omega
    · exact hm 1 hj c2
  split at hr
  · rename_i c
    obtain ⟨c1, _, c2, c3, _⟩ := c
    obtain rfl | rfl | rfl : j = 0 ∨ j = 1 ∨ j = 2 := by omega
    · omega
    · exact hm 1 hj c2
    · exact hm 2 hj c3
  split at hr
  · rename_i c
    obtain ⟨c1, _, c2, c3, c4, _⟩ := c
    obtain rfl | rfl | rfl | rfl : j = 0 ∨ j = 1 ∨ j = 2 ∨ j = 3 := by omega
    · omega
    · exact hm 1 hj c2
    · exact hm 2 hj c3
    · exact hm 3 hj c4
  · omega

/-! ### a text between quotes -/
theorem esc_high {u : Str} (h : ∀ c ∈ u, 128 ≤ c.toNat) : u.flatMap escB = u := by
  induction u with
  | nil => rfl
  | cons c u ih =>
    have hc := h c List.mem_cons_self
    have hne : ∀ d : UInt8, d.toNat < 128 → c ≠ d := fun d hd e => by subst e; omega
    rw [List.flatMap_cons, ih fun x hx => h x (List.mem_cons_of_mem _ hx)]
    unfold escB
    rw [if_neg (by rintro (e | e) <;> exact hne _ (by decide) e), if_neg (hne _ (by decide)), if_neg (hne _ (by decide)), if_neg (hne _ (by decide)), if_neg (hne _ (by decide)), if_neg (hne _ (by decide)), if_neg (by
      intro e
      have : c.toNat < 32 := e
      omega)]
    rfl
/-- what is written for a byte below 128 is read as it -/
def escOk (c : UInt8) : Bool :=
  match escB c with
  | [d] => decide (d = c) && decide (c ≠ 34) && decide (c ≠ 92) && decide (32 ≤ c.toNat)
  | [a, b] => decide (a = 92) && decide (escM [a, b] 0 = some ([c], 2))
  | [a, b, d, e, f, g] => decide (a = 92) && decide (b = 117) && decide (hexM [a, b, d, e, f, g] 0 = c.toNat)
  | _ => false
theorem esc_ok : ∀ n : Fin 128, escOk (UInt8.ofNat n) = true := by decide +kernel
theorem escM_two {s r : Str} {i : Nat} {b : UInt8} {c : Str} (h : s.drop i = 92 :: b :: r) (he : escM [92, b] 0 = some (c, 2)) : escM s i = some (c, 2) := by
  have e1 : byteM s (i + 1) = b.toNat := byte_at (drop_cons h)
  have e2 : byteM [92, b] (0 + 1) = b.toNat := rfl
  unfold escM at he ⊢
  dsimp only at he ⊢
  simp only [e1, e2] at he ⊢
  have hx : hexM [92, b] 0 = -1 := by
    unfold hexM
    rw [if_neg]
    rintro ⟨h, _⟩
    simp at h
  rw [hx] at he
  by_cases q1 : (b.toNat : Int) = 34
  · rw [if_pos q1] at he ⊢; exact he
  rw [if_neg q1] at he ⊢
  by_cases q2 : (b.toNat : Int) = 92
  · rw [if_pos q2] at he ⊢; exact he
  rw [if_neg q2] at he ⊢
  by_cases q3 : (b.toNat : Int) = 47
  · rw [if_pos q3] at he ⊢; exact he
  rw [if_neg q3] at he ⊢
  by_cases q4 : (b.toNat : Int) = 98
  · rw [if_pos q4] at he ⊢; exact he
  rw [if_neg q4] at he ⊢
  by_cases q5 : (b.toNat : Int) = 102
  · rw [if_pos q5] at he ⊢; exact he
  rw [if_neg q5] at he ⊢
  by_cases q6 : (b.toNat : Int) = 110
  · rw [if_pos q6] at he ⊢; exact he
  rw [if_neg q6] at he ⊢
  by_cases q7 : (b.toNat : Int) = 114
  · rw [if_pos q7] at he ⊢; exact he
  rw [if_neg q7] at he ⊢
  by_cases q8 : (b.toNat : Int) = 116
  · rw [if_pos q8] at he ⊢; exact he
  rw [if_neg q8] at he
  rw [if_pos (.inl (by decide))] at he
  cases he
end Go.Eng

namespace Go.Eng
open Go

theorem escM_u {s r : Str} {i : Nat} (h : s.drop i = 92 :: 117 :: r) : escM s i = (if hexM s i < 0 ∨ 56320 ≤ hexM s i ∧ hexM s i ≤ 57343 then none
    else if 55296 ≤ hexM s i ∧ hexM s i ≤ 56319 then (if hexM s (i + 6) < 56320 ∨ 57343 < hexM s (i + 6) then none else some (wrM (65536 + (hexM s i - 55296) * 1024 + hexM s (i + 6) - 56320).toNat, 12))
    else some (wrM (hexM s i).toNat, 6)) := by
  have e1 : byteM s (i + 1) = 117 := byte_at (drop_cons h)
  unfold escM
  simp only [e1]
  rfl
theorem hexM_at {s r : Str} {i : Nat} {a b c d e f : UInt8} (h : s.drop i = a :: b :: c :: d :: e :: f :: r) : hexM s i = hexM [a, b, c, d, e, f] 0 := by
  have hl : i + 6 ≤ s.length := by
    have : (s.drop i).length = 6 + r.length := by rw [h]; simp; omega
    rw [List.length_drop] at this
    omega
  have h1 := drop_cons h
  have h2 := drop_cons h1
  have h3 := drop_cons h2
  have h4 := drop_cons h3
  have h5 := drop_cons h4
  have e0 := byte_at h
  have e1 := byte_at h1
  have e2 := byte_at h2
  have e3 := byte_at h3
  have e4 := byte_at h4
  have e5 := byte_at h5
  unfold hexM
  simp only [Nat.add_assoc, Nat.reduceAdd] at e2 e3 e4 e5 ⊢
  rw [e0, e1, e2, e3, e4, e5]
  simp only [Nat.zero_add, List.length_cons, List.length_nil]
  rw [show byteM [a, b, c, d, e, f] 0 = a.toNat from rfl, show byteM [a, b, c, d, e, f] 1 = b.toNat from rfl, show byteM [a, b, c, d, e, f] 2 = c.toNat from rfl, show byteM [a, b, c, d, e, f] 3 = d.toNat from rfl, show byteM [a, b, c, d, e, f] 4 = e.toNat from rfl, show byteM [a, b, c, d, e, f] 5 = f.toNat from rfl]
  have : (0 + 6 ≤ 0 + 1 + 1 + 1 + 1 + 1 + 1) = True := by simp
  simp only [hl, true_and, this]
theorem b8_of (c : UInt8) : UInt8.ofNat c.toNat = c := UInt8.ofNat_toNat
theorem wr_low {c : UInt8} (h : c.toNat < 128) : wrM c.toNat = [c] := by
  unfold wrM b8
  rw [if_pos h, b8_of]
/-- what is written for a byte below 128 is one step of reading -/
theorem esc_step {E : ErrNo} {s r : Str} {start i cnt n : Nat} {out : Str} {c : UInt8} (hc : c.toNat < 128) (h : s.drop i = escB c ++ r) :
    quotGo E s start (n + 1) i out cnt = quotGo E s start n (i + (escB c).length) (out ++ [c]) cnt := by
  have hok : escOk c = true := by have := esc_ok ⟨c.toNat, hc⟩; rwa [show (UInt8.ofNat (⟨c.toNat, hc⟩ : Fin 128)) = c from b8_of c] at this
  unfold escOk at hok
  split at hok
  · rename_i d he
    simp only [Bool.and_eq_true, decide_eq_true_eq] at hok
    obtain ⟨⟨⟨rfl, h34⟩, h92⟩, h32⟩ := hok
    rw [he] at h ⊢
    have hb : byteM s i = d.toNat := byte_at h
    have hrn : Rn [d] := by
      refine ⟨by simp, ?_⟩
      unfold runeM
      rw [show byteM [d] 0 = d.toNat from rfl, if_neg (by omega), if_pos (by omega)]; rfl
    have hr : runeM s i = 1 := hrn.at h
    have n34 : ¬ ((d.toNat : Int) = 34) := fun e => h34 (UInt8.toNat_inj.1 (by show d.toNat = 34; omega))
    have n92 : ¬ ((d.toNat : Int) = 92) := fun e => h92 (UInt8.toNat_inj.1 (by show d.toNat = 92; omega))
    rw [quotGo, hb, if_neg n34, if_neg (by omega), if_neg n92, if_neg (by omega), hr, if_neg (by omega), h]
    rfl
  · rename_i a b he
    simp only [Bool.and_eq_true, decide_eq_true_eq] at hok
    obtain ⟨rfl, he2⟩ := hok
    rw [he] at h ⊢
    have hb : byteM s i = 92 := byte_at h
    rw [quotGo, hb, if_neg (by decide), if_neg (by decide), if_pos rfl, escM_two h he2]
    rfl
  · rename_i a b d e f g he
    simp only [Bool.and_eq_true, decide_eq_true_eq] at hok
    obtain ⟨⟨rfl, rfl⟩, he2⟩ := hok
    rw [he] at h ⊢
    have hb : byteM s i = 92 := byte_at h
    have hx := hexM_at h
    rw [he2] at hx
    rw [quotGo, hb, if_neg (by decide), if_neg (by decide), if_pos rfl, escM_u h, hx, if_neg (by omega), if_neg (by omega), Int.toNat_natCast, wr_low hc]
    rfl
  · cases hok
theorem high_step {E : ErrNo} {s r : Str} {start i cnt n : Nat} {out u : Str} (hu : Rn u) (hh : ∀ c ∈ u, 128 ≤ c.toNat) (h : s.drop i = u ++ r) :
    quotGo E s start (n + 1) i out cnt = quotGo E s start n (i + u.length) (out ++ u) cnt := by
  have hp := hu.pos
  have hb : 128 ≤ byteM s i := by
    have := byte_pref (j := 0) h hp
    rw [Nat.add_zero] at this
    rw [this]
    have := hh u[0] (List.getElem_mem ..)
    omega
  have hr := hu.at h
  rw [quotGo, if_neg (by omega), if_neg (by omega), if_neg (by omega), if_neg (by omega), hr, if_neg (by omega), h, List.take_left]
theorem quot_go {E : ErrNo} {s : Str} {start cnt : Nat} {t : Str} (ht : Utf t) : ∀ {r out : Str} {i n : Nat}, s.drop i = t.flatMap escB ++ 34 :: r → t.length < n → (out ++ t).length ≤ 16384 →
    quotGo E s start n i out cnt = .ok (out ++ t) (i + (t.flatMap escB).length + 1) cnt := by
  induction ht with
  | nil =>
    intro r out i n h hn hl
    cases n with
    | zero => simp at hn
    | succ n =>
      simp only [List.flatMap_nil, List.nil_append, List.append_nil] at h hl ⊢
      rw [quotGo, byte_at h, if_pos (by decide), if_neg (by omega)]
      rfl
  | @cons u t' hu ht' ih =>
    intro r out i n h hn hl
    have hp := hu.pos
    rw [List.length_append] at hn
    rw [List.flatMap_append, List.append_assoc] at h
    cases n with
    | zero => omega
    | succ n =>
      rcases hu.cases with ⟨c, rfl, hc⟩ | hh
      · have e : [c].flatMap escB = escB c := by simp
        rw [e] at h
        rw [esc_step hc h, ih (drop_app h) (by simp at hn; omega) (by simpa using hl), List.flatMap_append, e]
        simp only [List.length_append, List.append_assoc, List.singleton_append]
        congr 1; omega
      · rw [esc_high hh] at h
        rw [high_step hu hh h, ih (drop_app h) (by omega) (by simpa using hl), List.flatMap_append, esc_high hh]
        simp only [List.length_append, List.append_assoc]
        congr 1; omega
/-- a text between quotes is read -/
theorem quot_read {E : ErrNo} {s r t : Str} {i cnt : Nat} (h : s.drop i = quoteM t ++ r) (hu : utfM t = true) (hl : t.length ≤ 16384) : quotM E s i cnt = .ok t (i + (quoteM t).length) cnt := by
  have ht := (utf_iff t).1 hu
  have h1 : s.drop (i + 1) = t.flatMap escB ++ 34 :: r := by
    refine drop_cons (c := 34) ?_
    rw [h]; simp [quoteM]
  have hlen : t.length < s.length + 1 := by
    have e : (s.drop (i + 1)).length = (t.flatMap escB).length + (r.length + 1) := by rw [h1]; simp
    have : t.length ≤ (t.flatMap escB).length := by
      clear h h1 hu hl ht e
      induction t with
      | nil => simp
      | cons c t ih =>
        rw [List.flatMap_cons, List.length_append, List.length_cons]
        have : 1 ≤ (escB c).length := by unfold escB; repeat' split
                                         all_goals simp
        omega
    rw [List.length_drop] at e
    omega
  unfold quotM
  rw [quot_go ht h1 hlen (by simpa using hl)]
  simp only [List.nil_append, quoteM, List.length_append, List.length_cons, List.length_nil]
  congr 1; omega

/-! ### what is read -/
theorem rn_wr {n : Nat} (h : n < 55296 ∨ 57343 < n ∧ n ≤ 1114111) : Rn (wrM n) := by
  have e : ∀ x : Nat, x < 256 → ((b8 x).toNat : Int) = x := fun x hx => by unfold b8; rw [UInt8.toNat_ofNat']; omega
  unfold wrM
  split
  · refine ⟨by simp, ?_⟩
    unfold runeM
    rw [show byteM [b8 n] 0 = (b8 n).toNat from rfl, e n (by omega), if_neg (by omega), if_pos (by omega)]; rfl
  split
  · refine ⟨by simp, ?_⟩
    unfold runeM moreM
    simp only [Nat.zero_add]
    rw [show byteM [b8 (192 + n / 64), b8 (128 + n % 64)] 0 = (b8 (192 + n / 64)).toNat from rfl, show byteM [b8 (192 + n / 64), b8 (128 + n % 64)] 1 = (b8 (128 + n % 64)).toNat from rfl, e _ (by omega), e _ (by omega),
      if_neg (by omega), if_neg (by omega), if_pos ⟨by omega, by omega, by rw [Bool.and_eq_true, decide_eq_true_iff, decide_eq_true_iff]; omega⟩]; rfl
  split
  · refine ⟨by simp, ?_⟩
    unfold runeM moreM
    simp only [Nat.zero_add]
    rw [show byteM [b8 (224 + n / 4096), b8 (128 + n / 64 % 64), b8 (128 + n % 64)] 0 = (b8 (224 + n / 4096)).toNat from rfl, show byteM [b8 (224 + n / 4096), b8 (128 + n / 64 % 64), b8 (128 + n % 64)] 1 = (b8 (128 + n / 64 % 64)).toNat from rfl, show byteM [b8 (224 + n / 4096), b8 (128 + n / 64 % 64), b8 (128 + n % 64)] 2 = (b8 (128 + n % 64)).toNat from rfl, e _ (by omega), e _ (by omega), e _ (by omega),
      if_neg (by omega), if_neg (by omega), if_neg (by omega), if_pos ⟨by omega, by omega, by rw [Bool.and_eq_true, decide_eq_true_iff, decide_eq_true_iff]; omega, by rw [Bool.and_eq_true, decide_eq_true_iff, decide_eq_true_iff]; omega, by omega, by omega⟩]; rfl
  · refine ⟨by simp, ?_⟩
    unfold runeM moreM
    simp only [Nat.zero_add]
    rw [show byteM [b8 (240 + n / 262144), b8 (128 + n / 4096 % 64), b8 (128 + n / 64 % 64), b8 (128 + n % 64)] 0 = (b8 (240 + n / 262144)).toNat from rfl, show byteM [b8 (240 + n / 262144), b8 (128 + n / 4096 % 64), b8 (128 + n / 64 % 64), b8 (128 + n % 64)] 1 = (b8 (128 + n / 4096 % 64)).toNat from rfl, show byteM [b8 (240 + n / 262144), b8 (128 + n / 4096 % 64), b8 (128 + n / 64 % 64), b8 (128 + n % 64)] 2 = (b8 (128 + n / 64 % 64)).toNat from rfl, show byteM [b8 (240 + n / 262144), b8 (128 + n / 4096 % 64), b8 (128 + n / 64 % 64), b8 (128 + n % 64)] 3 = (b8 (128 + n % 64)).toNat from rfl, e _ (by omega), e _ (by omega), e _ (by omega), e _ (by omega),
      if_neg (by omega), if_neg (by omega), if_neg (by omega), if_neg (by omega), if_pos ⟨by omega, by omega, by rw [Bool.and_eq_true, decide_eq_true_iff, decide_eq_true_iff]; omega, by rw [Bool.and_eq_true, decide_eq_true_iff, decide_eq_true_iff]; omega, by rw [Bool.and_eq_true, decide_eq_true_iff, decide_eq_true_iff]; omega, by omega, by omega⟩]; rfl
theorem hexV_le (c : Int) : hexV c ≤ 15 := by unfold hexV; split; omega; split; omega; split <;> omega
theorem hexM_range (s : Str) (i : Nat) : hexM s i = -1 ∨ 0 ≤ hexM s i ∧ hexM s i ≤ 65535 := by
  unfold hexM
  split
  · rename_i h
    have h2 := hexV_le (byteM s (i + 2))
    have h3 := hexV_le (byteM s (i + 3))
    have h4 := hexV_le (byteM s (i + 4))
    have h5 := hexV_le (byteM s (i + 5))
    omega
  · omega
theorem escB_le (c : UInt8) : (escB c).length ≤ 6 := by unfold escB; repeat' split
                                                        all_goals simp
theorem rn_one {c : UInt8} (h : c.toNat < 128) : Rn [c] := by
  refine ⟨by simp, ?_⟩
  unfold runeM
  rw [show byteM [c] 0 = c.toNat from rfl, if_neg (by omega), if_pos (by omega)]; rfl
theorem rn_len {u : Str} (h : Rn u) : u.length ≤ 4 := by
  obtain ⟨c, hc⟩ := rune_good (i := 0) h.pos (by rw [h.2]; have := h.pos; omega)
  have := hc.small
  rw [h.2] at this; exact this
theorem escM_def (s : Str) (i : Nat) : escM s i = if byteM s (i + 1) = 34 then some ([34], 2) else if byteM s (i + 1) = 92 then some ([92], 2) else if byteM s (i + 1) = 47 then some ([47], 2) else if byteM s (i + 1) = 98 then some ([8], 2) else if byteM s (i + 1) = 102 then some ([12], 2)
  else if byteM s (i + 1) = 110 then some ([10], 2) else if byteM s (i + 1) = 114 then some ([13], 2) else if byteM s (i + 1) = 116 then some ([9], 2)
  else if hexM s i < 0 ∨ 56320 ≤ hexM s i ∧ hexM s i ≤ 57343 then none
    else if 55296 ≤ hexM s i ∧ hexM s i ≤ 56319 then (if hexM s (i + 6) < 56320 ∨ 57343 < hexM s (i + 6) then none else some (wrM (65536 + (hexM s i - 55296) * 1024 + hexM s (i + 6) - 56320).toNat, 12))
    else some (wrM (hexM s i).toNat, 6) := rfl
/-- a text that a backslash stands for is a rune, and no longer written than read -/
theorem escM_rune {s : Str} {i k : Nat} {t : Str} (h : escM s i = some (t, k)) : Rn t ∧ (t.flatMap escB).length ≤ k ∧ 2 ≤ k := by
  have long : ∀ {u : Str}, Rn u → (u.flatMap escB).length ≤ 6 := fun {u} hu => by
    rcases hu.cases with ⟨c, rfl, _⟩ | hh
    · simpa using escB_le c
    · rw [esc_high hh]; have := rn_len hu; omega
  have hr := hexM_range s i
  have hr2 := hexM_range s (i + 6)
  have one : ∀ (d : UInt8), d.toNat < 128 → (escB d).length ≤ 2 → some ([d], 2) = some (t, k) → Rn t ∧ (t.flatMap escB).length ≤ k ∧ 2 ≤ k := fun d hd hl he => by
    cases he
    exact ⟨rn_one hd, by simpa using hl, by omega⟩
  rw [escM_def] at h
  by_cases q0 : byteM s (i + 1) = 34
  · rw [if_pos q0] at h; exact one _ (by decide) (by decide) h
  rw [if_neg q0] at h
  by_cases q1 : byteM s (i + 1) = 92
  · rw [if_pos q1] at h; exact one _ (by decide) (by decide) h
  rw [if_neg q1] at h
  by_cases q2 : byteM s (i + 1) = 47
  · rw [if_pos q2] at h; exact one _ (by decide) (by decide) h
  rw [if_neg q2] at h
  by_cases q3 : byteM s (i + 1) = 98
  · rw [if_pos q3] at h; exact one _ (by decide) (by decide) h
  rw [if_neg q3] at h
  by_cases q4 : byteM s (i + 1) = 102
  · rw [if_pos q4] at h; exact one _ (by decide) (by decide) h
  rw [if_neg q4] at h
  by_cases q5 : byteM s (i + 1) = 110
  · rw [if_pos q5] at h; exact one _ (by decide) (by decide) h
  rw [if_neg q5] at h
  by_cases q6 : byteM s (i + 1) = 114
  · rw [if_pos q6] at h; exact one _ (by decide) (by decide) h
  rw [if_neg q6] at h
  by_cases q7 : byteM s (i + 1) = 116
  · rw [if_pos q7] at h; exact one _ (by decide) (by decide) h
  rw [if_neg q7] at h
  by_cases a1 : hexM s i < 0 ∨ 56320 ≤ hexM s i ∧ hexM s i ≤ 57343
  · rw [if_pos a1] at h; cases h
  rw [if_neg a1] at h
  by_cases a2 : 55296 ≤ hexM s i ∧ hexM s i ≤ 56319
  · rw [if_pos a2] at h
    by_cases a3 : hexM s (i + 6) < 56320 ∨ 57343 < hexM s (i + 6)
    · rw [if_pos a3] at h; cases h
    rw [if_neg a3] at h
    have hn := rn_wr (n := (65536 + (hexM s i - 55296) * 1024 + hexM s (i + 6) - 56320).toNat) (by omega)
    generalize wrM (65536 + (hexM s i - 55296) * 1024 + hexM s (i + 6) - 56320).toNat = z at *
    simp only [Option.some.injEq, Prod.mk.injEq] at h
    obtain ⟨rfl, rfl⟩ := h
    exact ⟨hn, by have := long hn; omega, by omega⟩
  · rw [if_neg a2] at h
    have hn := rn_wr (n := (hexM s i).toNat) (by omega)
    generalize wrM (hexM s i).toNat = z at *
    simp only [Option.some.injEq, Prod.mk.injEq] at h
    obtain ⟨rfl, rfl⟩ := h
    exact ⟨hn, long hn, by omega⟩
theorem quot_back {E : ErrNo} {s : Str} {start cnt : Nat} : ∀ {n i : Nat} {out t : Str} {j c : Nat}, quotGo E s start n i out cnt = .ok t j c → Utf out →
    c = cnt ∧ Utf t ∧ t.length ≤ 16384 ∧ i < j ∧ j ≤ s.length ∧ (t.flatMap escB).length + 1 + i ≤ (out.flatMap escB).length + j := by
  intro n
  induction n with
  | zero => intro i out t j c h _; rw [quotGo] at h; cases h
  | succ n ih =>
    intro i out t j c h hu
    rw [quotGo] at h
    split at h
    · rename_i h34
      split at h
      · cases h
      · cases h
        have hlt : i < s.length := by
          apply Nat.lt_of_not_le; intro hle
          rw [byteM_out hle] at h34; omega
        refine ⟨rfl, hu, by omega, by omega, by omega, by omega⟩
    split at h
    · cases h
    split at h
    · split at h
      · cases h
      · rename_i u k he
        obtain ⟨h1, h2, h3⟩ := escM_rune he
        obtain ⟨a1, a2, a3, a4, a5, a6⟩ := ih h (hu.app (.one h1))
        rw [List.flatMap_append, List.length_append] at a6
        refine ⟨a1, a2, a3, by omega, a5, by omega⟩
    split at h
    · cases h
    split at h
    · cases h
    · rename_i n34 nneg n92 n32 hr
      have hn := Rn.of hr
      have hl : ((s.drop i).take (runeM s i)).length = runeM s i := by rw [List.length_take, List.length_drop]; have := rune_fits hr; omega
      obtain ⟨a1, a2, a3, a4, a5, a6⟩ := ih h (hu.app (.one hn))
      rw [List.flatMap_append, List.length_append] at a6
      have hw : (((s.drop i).take (runeM s i)).flatMap escB).length ≤ runeM s i := by
        have hb0 : byteM s i = ((((s.drop i).take (runeM s i))[0]'(by omega)).toNat : Int) := by
          have := byte_pref (s := s) (i := i) (j := 0) (u := (s.drop i).take (runeM s i)) (r := (s.drop i).drop (runeM s i)) (List.take_append_drop _ _).symm (by omega)
          rwa [Nat.add_zero] at this
        rcases hn.cases with ⟨d, hd, hd2⟩ | hh
        · rw [hd] at hl ⊢
          simp only [hd, List.getElem_cons_zero] at hb0
          simp only [List.flatMap_cons, List.flatMap_nil, List.append_nil]
          rw [← hl]
          have q : ∀ x : UInt8, d = x → byteM s i = x.toNat := fun x e => by rw [hb0, e]
          unfold escB
          rw [if_neg (by rintro (e | e); exact n34 (q _ e); exact n92 (q _ e)), if_neg (fun e => n32 (by rw [q _ e]; decide)), if_neg (fun e => n32 (by rw [q _ e]; decide)), if_neg (fun e => n32 (by rw [q _ e]; decide)), if_neg (fun e => n32 (by rw [q _ e]; decide)), if_neg (fun e => n32 (by rw [q _ e]; decide)), if_neg (by
            intro e
            have e2 : d.toNat < 32 := e
            exact n32 (by rw [hb0]; omega))]
          exact Nat.le_refl _
        · rw [esc_high hh]; omega
      refine ⟨a1, a2, a3, by omega, a5, by omega⟩
end Go.Eng

namespace Go.Eng
open Go

theorem tw_self {p : UInt8 → Bool} : ∀ {l : Str}, (∀ c ∈ l, p c = true) → l.takeWhile p = l
  | [], _ => rfl
  | c :: l, h => by rw [List.takeWhile_cons, if_pos (h c List.mem_cons_self), tw_self fun x hx => h x (List.mem_cons_of_mem _ hx)]
/-- where the line of place n begins -/
def fromM (s : Str) : Nat → Nat
  | 0 => 0
  | n + 1 => if byteM s n = 10 then n + 1 else fromM s n
def rowM (s : Str) : Nat → Nat
  | 0 => 1
  | n + 1 => if byteM s n = 10 then rowM s n + 1 else rowM s n
/-- how many runes begin ahead of b (fuel, place) -/
def colGo (t : Str) (b : Nat) : Nat → Nat → Nat
  | 0, _ => 0
  | n + 1, i => if i < t.length then (if i < b then 1 else 0) + colGo t b n (i + stepM t i) else 0
def colM (t : Str) (b : Nat) : Nat := colGo t b t.length 0
def notNl (c : UInt8) : Bool := !decide (c = 10)
def lineAt (s : Str) (f : Nat) : Str := (s.drop f).takeWhile notNl
/-- a place within the text -/
def clampM (s : Str) (n : Int) : Nat := (min (max n 0) s.length).toNat
theorem clamp_le (s : Str) (n : Int) : clampM s n ≤ s.length := by unfold clampM; omega
theorem from_le (s : Str) (n : Nat) : fromM s n ≤ n := by
  induction n with
  | zero => exact Nat.le_refl _
  | succ n ih => unfold fromM; split <;> omega
theorem from_no (s : Str) (n : Nat) : ∀ j, fromM s n ≤ j → j < n → byteM s j ≠ 10 := by
  induction n with
  | zero => intro j _ h; omega
  | succ n ih =>
    intro j h1 h2
    unfold fromM at h1
    split at h1
    · omega
    · rename_i hn
      rcases Nat.lt_or_ge j n with h | h
      · exact ih j h1 h
      · rw [show j = n by omega]; exact hn
theorem from_take (s : Str) : ∀ {n k : Nat}, n ≤ k → k ≤ s.length → fromM (s.take k) n = fromM s n := by
  intro n
  induction n with
  | zero => intro k _ _; rfl
  | succ n ih =>
    intro k h1 h2
    unfold fromM
    have e : byteM (s.take k) n = byteM s n := by
      rw [byteM_in (by rw [List.length_take]; omega), byteM_in (by omega)]
      unfold bt
      rw [List.getD_eq_getElem?_getD, List.getD_eq_getElem?_getD, List.getElem?_take, if_pos (by omega)]
    rw [e, ih (by omega) h2]
theorem row_count (s : Str) : ∀ {n : Nat}, n ≤ s.length → rowM s n = 1 + (s.take n).count 10 := by
  intro n
  induction n with
  | zero => intro _; simp [rowM]
  | succ n ih =>
    intro h
    have hn : n < s.length := by omega
    unfold rowM
    rw [ih (by omega), List.take_add_one, List.getElem?_eq_getElem hn, Option.toList_some, List.count_append]
    have e : byteM s n = 10 ↔ s[n] = 10 := by
      rw [byteM_in hn]
      unfold bt
      rw [List.getD_eq_getElem?_getD, List.getElem?_eq_getElem hn, Option.getD_some]
      constructor
      · intro h; exact UInt8.toNat_inj.1 (by show s[n].toNat = 10; omega)
      · intro h; rw [h]; rfl
    by_cases hb : byteM s n = 10
    · rw [if_pos hb, e.1 hb]; simp; omega
    · rw [if_neg hb, List.count_singleton]
      have : ¬ (s[n] = 10) := fun h => hb (e.2 h)
      simp [this]
theorem colGo_mono (t : Str) (b : Nat) : ∀ n i, colGo t b n i ≤ colGo t (b + 1) n i := by
  intro n
  induction n with
  | zero => intro i; exact Nat.le_refl _
  | succ n ih =>
    intro i
    unfold colGo
    have := ih (i + stepM t i)
    split
    · split <;> split <;> omega
    · exact Nat.le_refl _
theorem colGo_zero (t : Str) : ∀ n i, colGo t 0 n i = 0 := by
  intro n
  induction n with
  | zero => intro i; rfl
  | succ n ih =>
    intro i
    unfold colGo
    split
    · rw [if_neg (by omega), ih]
    · rfl
/-- the fuel does not matter once it is enough -/
theorem colGo_fuel (t : Str) (b : Nat) : ∀ n m i, t.length ≤ i + n → t.length ≤ i + m → colGo t b n i = colGo t b m i := by
  intro n
  induction n with
  | zero =>
    intro m i h1 h2
    cases m with
    | zero => rfl
    | succ m => unfold colGo; rw [if_neg (by omega)]
  | succ n ih =>
    intro m i h1 h2
    cases m with
    | zero => unfold colGo; rw [if_neg (by omega)]
    | succ m =>
      unfold colGo
      have hp := step_pos t i
      rw [ih m (i + stepM t i) (by omega) (by omega)]
/-- the line and the column of a place -/
def placeM (s : Str) (n : Int) : Nat × Nat :=
  (rowM s (clampM s n), 1 + colM (s.drop (fromM s (clampM s n))) (clampM s n - fromM s (clampM s n)))
def lineM (s : Str) (n : Int) : Str := lineAt s (fromM s (clampM s n))
theorem clamp_nat {s : Str} {n : Nat} (h : n ≤ s.length) : clampM s n = n := by unfold clampM; omega

/-- the end of the line of place n -/
def eolM (s : Str) (n : Nat) : Nat := fromM s n + (lineAt s (fromM s n)).length
theorem line_take (s : Str) (f : Nat) : lineAt s f = (s.drop f).take (lineAt s f).length := by
  unfold lineAt
  exact List.prefix_iff_eq_take.1 (List.takeWhile_prefix _)
theorem eol_nl {s : Str} {n : Nat} (hn : n < s.length) (h : byteM s n = 10) : eolM s n = n := by
  unfold eolM lineAt
  have h1 := from_le s n
  have h2 := from_no s n
  generalize fromM s n = f at *
  have e : s.drop f = (s.drop f).take (n - f) ++ s.drop n := by
    rw [show s.drop n = (s.drop f).drop (n - f) by rw [List.drop_drop, show f + (n - f) = n by omega]]
    exact (List.take_append_drop _ _).symm
  have ht : ∀ c ∈ (s.drop f).take (n - f), notNl c = true := by
    intro c hc
    obtain ⟨j, hj, rfl⟩ := List.getElem_of_mem hc
    rw [List.length_take, List.length_drop] at hj
    have := h2 (f + j) (by omega) (by omega)
    rw [byteM_in (by omega)] at this
    unfold bt at this
    rw [List.getD_eq_getElem?_getD, List.getElem?_eq_getElem (by omega), Option.getD_some] at this
    rw [List.getElem_take, List.getElem_drop]
    unfold notNl
    rw [Bool.not_eq_true', decide_eq_false_iff_not]
    intro e
    rw [e] at this
    exact this rfl
  rw [e, List.takeWhile_append_of_pos ht, List.drop_eq_getElem_cons hn]
  have hc : s[n] = 10 := by
    rw [byteM_in hn] at h
    unfold bt at h
    rw [List.getD_eq_getElem?_getD, List.getElem?_eq_getElem hn, Option.getD_some] at h
    exact UInt8.toNat_inj.1 (by show s[n].toNat = 10; omega)
  rw [List.takeWhile_cons, if_neg (by rw [hc]; decide)]
  simp only [List.append_nil, List.length_take, List.length_drop]
  omega
theorem eol_le (s : Str) {n : Nat} (h : n ≤ s.length) : eolM s n ≤ s.length := by
  unfold eolM
  have h1 := from_le s n
  have : (lineAt s (fromM s n)).length ≤ (s.drop (fromM s n)).length := (List.takeWhile_sublist _).length_le
  rw [List.length_drop] at this
  omega
/-- one byte further on, not behind a line's end -/
theorem order_same {s : Str} {n : Nat} (h : byteM s n ≠ 10) : rowM s (n + 1) = rowM s n ∧ fromM s (n + 1) = fromM s n := by
  constructor
  · show (if byteM s n = 10 then _ else _) = _; rw [if_neg h]
  · show (if byteM s n = 10 then _ else _) = _; rw [if_neg h]
theorem order_next {s : Str} {n : Nat} (h : byteM s n = 10) : rowM s (n + 1) = rowM s n + 1 ∧ fromM s (n + 1) = n + 1 := by
  constructor
  · show (if byteM s n = 10 then _ else _) = _; rw [if_pos h]
  · show (if byteM s n = 10 then _ else _) = _; rw [if_pos h]
/-- the lines so far, and the next one -/
theorem all_next {s : Str} {n : Nat} (hn : n < s.length) (h : byteM s n = 10) : s.take (eolM s n) ++ [10] ++ lineAt s (n + 1) = s.take (eolM s (n + 1)) := by
  have hc : s[n] = 10 := by
    rw [byteM_in hn] at h
    unfold bt at h
    rw [List.getD_eq_getElem?_getD, List.getElem?_eq_getElem hn, Option.getD_some] at h
    exact UInt8.toNat_inj.1 (by show s[n].toNat = 10; omega)
  rw [eol_nl hn h]
  unfold eolM
  rw [(order_next h).2, List.take_add, ← line_take s (n + 1), List.take_add_one, List.getElem?_eq_getElem hn, Option.toList_some, hc]
theorem all_first (s : Str) : lineAt s 0 = s.take (eolM s 0) := by
  unfold eolM
  show lineAt s 0 = s.take (0 + (lineAt s 0).length)
  rw [Nat.zero_add]
  have := line_take s 0
  rw [List.drop_zero] at this
  exact this
theorem all_last (s : Str) : s.take (eolM s s.length) = s := by
  unfold eolM lineAt
  have h1 := from_le s s.length
  have h2 := from_no s s.length
  generalize fromM s s.length = f at *
  have ht : (s.drop f).takeWhile notNl = s.drop f := by
    refine tw_self fun c hc => ?_
    obtain ⟨j, hj, rfl⟩ := List.getElem_of_mem hc
    rw [List.length_drop] at hj
    have := h2 (f + j) (by omega) (by omega)
    rw [byteM_in (by omega)] at this
    unfold bt at this
    rw [List.getD_eq_getElem?_getD, List.getElem?_eq_getElem (by omega), Option.getD_some] at this
    rw [List.getElem_drop]
    unfold notNl
    rw [Bool.not_eq_true', decide_eq_false_iff_not]
    intro e
    rw [e] at this
    exact this rfl
  rw [ht, List.length_drop, List.take_of_length_le (by omega)]
end Go.Eng

namespace Go.Proofs.YtcnjpcadejcenaaGreatDoor
open Go Go.Eng
set_option maxRecDepth 100000
variable [HX]

/- 0 has no body -/
/- purlin_purlinlaw23.awake -/
def plan23 : Plan := { js := [(9004, ⟨[30], [], 29⟩), (9009, ⟨[26], [], 24⟩), (9013, ⟨[21], [], 20⟩)], ds := [(7, ⟨[0, 1, 5], [[], [], [], [1, 2], [0, 1, 2, 3], [0, 1, 2, 3, 4]]⟩)] }
def W23 (w : World) (K : Value → World → Prop) : Prop :=
  callF Tryz.prog 27 [(.string (ofL [97, 10, 98])), (.int .i64 3)] w fun t6 w1 =>
  extW 0 t6 fun t7 =>
  extW 1 t6 fun t8 =>
  putW [(.int .i64 0), (.bool false), (.string (ofL [])), (.slice none 0 0), (.slice none 0 0)] [(0, 1, (.int .i64 6))] fun c2 =>
  callF Tryz.prog 63 [(.int .i64 1)] w1 fun t10 w3 =>
  callF Tryz.prog 62 [(.agg c2.toArray), (.string (ofL [97])), t10] w3 fun t11 w4 =>
  allocW 26 [(.int .i64 0), (.bool false), (.string (ofL [])), (.slice none 0 0), (.slice none 0 0)] w4 fun t3 w5 =>
  stW 5 t3 t11 w5 fun w6 =>
  ldW true 5 t3 w6.drew fun t12 =>
  ldW true 5 t3 w6.drew fun t13 =>
  callF Tryz.prog 65 [] w6.drew fun t14 w7 =>
  (ldW true 5 t3 w7 fun x => x = t13) ∧
  (ldW true 5 t3 w7 fun x => x = t12) ∧
  callF Tryz.prog 62 [t13, (.string (ofL [110, 101, 119, 95, 98])), t14] w7 fun t15 w8 =>
  (ldW true 5 t3 w8 fun x => x = t12) ∧
  callF Tryz.prog 64 [t12, t15] w8 fun t16 w9 =>
  binW .eql t7 (.int .i64 2) fun t18 =>
  GdW (isB t18 true) [undef] w9 (fun J10 =>
    binW .eql t8 (.int .i64 2) fun t21 =>
    J10 [t21] w9)
  fun s10 _ w11 =>
  pickW t18 (s10.getD 0 undef) (.bool false) fun t22 =>
  GdW (isB t22 true) [undef] w11 (fun J12 =>
    bslW 9 1 [(.string (ofL []))] [(0, 1, (.string (ofL [34, 110, 101, 119, 95, 98, 34, 58, 32, 40, 110, 111, 110, 101, 41, 32, 45, 62, 32, 40, 117, 110, 107, 110, 111, 119, 110, 41, 32, 40, 110, 101, 119, 41])))] w11 fun t25 w13 =>
    callF Tryz.prog 58 [t16, t25] w13 fun t26 w14 =>
    J12 [t26] w14)
  fun s12 _ w15 =>
  pickW t22 (s12.getD 0 undef) (.bool false) fun t27 =>
  GdW (isB t27 true) [undef] w15 (fun J16 =>
    callF Tryz.prog 25 [(.string (ofL [])), (.pointer none)] w15 fun t29 w17 =>
    binW .eql t29 (.string (ofL [111, 107])) fun t30 =>
    J16 [t30] w17)
  fun s16 _ w18 =>
  pickW t27 (s16.getD 0 undef) (.bool false) fun t31 =>
  K t31 w18
theorem W23_eq (w : World) (K : Value → World → Prop) : funW Tryz.prog Tryz.f23 plan23 [] w K = W23 w K := by kernel_rfl
theorem W23_chk : chkFun Tryz.prog Tryz.f23 plan23 0 = true := by kernel_rfl
theorem W23_ok {w : World} {K : Value → World → Prop} (h : W23 w K) : callF Tryz.prog 23 [] w K :=
  tie Tryz.prog 23 Tryz.f23 plan23 [] w K 0 (W23 w K) rfl mixed Tryz.func23 W23_chk (W23_eq w K) Tryz.call23 h

/- purlin_purlinref23.Place -/
def plan24 : Plan := { js := [(52, ⟨[10], [10], 41⟩), (41, ⟨[10, 11, 40], [10, 11, 13], 40⟩), (21, ⟨[7, 8], [7, 8], 10⟩), (14, ⟨[7, 8, 9], [], 2⟩), (2, ⟨[1], [], 1⟩)], ds := [] }
def W24 (v0 v1 : Value) (w : World) (K : Value → World → Prop) : Prop :=
  JoinW (fun J1 =>
    lensW v0 fun t16 =>
    binW .gtr v1 t16 fun t17 =>
    condW t17 (
      lensW v0 fun t19 =>
      J1 [t19] w) (
      J1 [v1] w))
  fun s1 _ w2 =>
  LoopW [(.int .i64 1), (.int .i64 0), (.int .i64 0)] w2 fun s3 _ w4 L3 =>
    binW .lss (s3.getD 2 undef) (s1.getD 0 undef) fun t22 =>
    condW t22 (
      JoinW (fun J5 =>
        ixsW v0 (s3.getD 2 undef) fun t27 =>
        binW .eql t27 (.int .u8 10) fun t28 =>
        condW t28 (
          binW .add (s3.getD 0 undef) (.int .i64 1) fun t30 =>
          binW .add (s3.getD 2 undef) (.int .i64 1) fun t32 =>
          J5 [t30, t32] w4) (
          J5 [(s3.getD 0 undef), (s3.getD 1 undef)] w4))
      fun s5 _ w6 =>
      binW .add (s3.getD 2 undef) (.int .i64 1) fun t24 =>
      L3 [(s5.getD 0 undef), (s5.getD 1 undef), t24] w6) (
      slsW v0 (some (s3.getD 1 undef)) none fun t36 =>
      callF Tryz.prog 66 [t36] w4 fun t37 w7 =>
      lenlW t37 fun t39 =>
      LoopW [(.int .i64 1), (s3.getD 1 undef), (.int .i64 0)] w7 fun s8 _ w9 L8 =>
        binW .lss (s8.getD 2 undef) t39 fun t41 =>
        condW t41 (
          JoinW (fun J10 =>
            binW .lss (s8.getD 1 undef) (s1.getD 0 undef) fun t45 =>
            condW t45 (
              binW .add (s8.getD 0 undef) (.int .i64 1) fun t47 =>
              J10 [t47] w9) (
              J10 [(s8.getD 0 undef)] w9))
          fun s10 _ w11 =>
          ixaW none 1 t37 (s8.getD 2 undef) fun t51 =>
          ldW false 1 t51 w11 fun t52 =>
          lensW t52 fun t53 =>
          binW .add (s8.getD 1 undef) t53 fun t54 =>
          binW .add (s8.getD 2 undef) (.int .i64 1) fun t55 =>
          L8 [(s10.getD 0 undef), t54, t55] w11) (
          K (.tuple #[(s3.getD 0 undef), (s8.getD 0 undef), (s3.getD 1 undef)]) w9))
theorem W24_eq (v0 v1 : Value) (w : World) (K : Value → World → Prop) : funW Tryz.prog Tryz.f24 plan24 [v0, v1] w K = W24 v0 v1 w K := by kernel_rfl
theorem W24_chk : chkFun Tryz.prog Tryz.f24 plan24 2 = true := by kernel_rfl
theorem W24_ok {v0 v1 : Value} {w : World} {K : Value → World → Prop} (h : W24 v0 v1 w K) : callF Tryz.prog 24 [v0, v1] w K :=
  tie Tryz.prog 24 Tryz.f24 plan24 [v0, v1] w K 2 (W24 v0 v1 w K) rfl mixed Tryz.func24 W24_chk (W24_eq v0 v1 w K) Tryz.call24 h

/- purlin_report.Diag -/
def plan25 : Plan := { js := [], ds := [(13, ⟨[0, 1, 2, 3, 4, 5, 7, 8, 9, 11, 12, 13, 14, 15, 16, 18, 19], [[], [0], [0, 1], [0, 1, 2], [0, 1, 2, 3], [], [5], [0, 1, 2, 3, 4, 5, 6], [0, 1, 2, 3, 4, 5, 6, 7], [], [5, 6, 9], [0, 1, 2, 3, 4, 5, 6, 7, 8, 9, 10], [0, 1, 2, 3, 4, 5, 6, 7, 8, 9, 10, 11], [], [13], [13, 14], [13, 14, 15], [5, 6, 9, 10, 13, 14, 15, 16], [0, 1, 2, 3, 4, 5, 6, 7, 8, 9, 10, 11, 12, 13, 14, 15, 16, 17], [0, 1, 2, 3, 4, 5, 6, 7, 8, 9, 10, 11, 12, 13, 14, 15, 16, 17, 18]]⟩)] }
def W25 (v0 v1 : Value) (w : World) (K : Value → World → Prop) : Prop :=
  eqW .ptr false v1 (.pointer none) fun t8 =>
  condW t8 (
    K (.string (ofL [111, 107])) w) (
    nilW v1 fun t12 =>
    fldW 2 t12 fun t13 =>
    ldW false 1 t13 w fun t14 =>
    callF Tryz.prog 27 [v0, t14] w fun t15 w1 =>
    extW 0 t15 fun t16 =>
    extW 1 t15 fun t17 =>
    nilW v1 fun t19 =>
    fldW 1 t19 fun t20 =>
    ldW false 1 t20 w1.drew fun t21 =>
    binW .add t21 (.string (ofL [58])) fun t22 =>
    nilW v1 fun t32 =>
    fldW 0 t32 fun t33 =>
    ldW false 1 t33 w1.drew fun t34 =>
    callF Tryz.prog 67 [t16] w1.drew fun t24 w2 =>
    (ldW false 1 t33 w2 fun x => x = t34) ∧
    (ldW false 1 t20 w2 fun x => x = t21) ∧
    binW .add t22 t24 fun t25 =>
    binW .add t25 (.string (ofL [58])) fun t26 =>
    callF Tryz.prog 67 [t17] w2 fun t28 w3 =>
    (ldW false 1 t33 w3 fun x => x = t34) ∧
    (ldW false 1 t20 w3 fun x => x = t21) ∧
    binW .add t26 t28 fun t29 =>
    binW .add t29 (.string (ofL [58, 32])) fun t30 =>
    callF Tryz.prog 67 [t34] w3 fun t35 w4 =>
    (ldW false 1 t20 w4 fun x => x = t21) ∧
    binW .add t30 t35 fun t36 =>
    K t36 w4)
theorem W25_eq (v0 v1 : Value) (w : World) (K : Value → World → Prop) : funW Tryz.prog Tryz.f25 plan25 [v0, v1] w K = W25 v0 v1 w K := by kernel_rfl
theorem W25_chk : chkFun Tryz.prog Tryz.f25 plan25 2 = true := by kernel_rfl
theorem W25_ok {v0 v1 : Value} {w : World} {K : Value → World → Prop} (h : W25 v0 v1 w K) : callF Tryz.prog 25 [v0, v1] w K :=
  tie Tryz.prog 25 Tryz.f25 plan25 [v0, v1] w K 2 (W25 v0 v1 w K) rfl mixed Tryz.func25 W25_chk (W25_eq v0 v1 w K) Tryz.call25 h

/- purlin_report.Place -/
def plan27 : Plan := { js := [(12, ⟨[8], [8, 9], 20⟩)], ds := [] }
def W27 (v0 v1 : Value) (w : World) (K : Value → World → Prop) : Prop :=
  callF Tryz.prog 69 [v0, v1] w fun t12 w1 =>
  callF Tryz.prog 70 [t12, (.int .u8 10)] w1 fun t14 w2 =>
  binW .add t14 (.int .i64 1) fun t15 =>
  slsW v0 (some t15) none fun t18 =>
  semE Tryz.prog (Instr.range 9 t18) w2 fun t19 w3 =>
  LoopW [(.int .i64 1)] w3 fun s4 _ w5 L4 =>
    semE Tryz.prog (Instr.next t19 true 0) w5 fun t20 w6 =>
    extW 0 t20 fun t21 =>
    condW t21 (
      extW 1 t20 fun t22 =>
      binW .add t15 t22 fun t25 =>
      lensW t12 fun t27 =>
      binW .lss t25 t27 fun t28 =>
      condW t28 (
        binW .add (s4.getD 0 undef) (.int .i64 1) fun t30 =>
        L4 [t30] w6) (
        L4 [(s4.getD 0 undef)] w6)) (
      callF Tryz.prog 71 [t12, (.string (ofL [10]))] w6 fun t32 w7 =>
      binW .add (.int .i64 1) t32 fun t33 =>
      K (.tuple #[t33, (s4.getD 0 undef)]) w7)
theorem W27_eq (v0 v1 : Value) (w : World) (K : Value → World → Prop) : funW Tryz.prog Tryz.f27 plan27 [v0, v1] w K = W27 v0 v1 w K := by kernel_rfl
theorem W27_chk : chkFun Tryz.prog Tryz.f27 plan27 2 = true := by kernel_rfl
theorem W27_ok {v0 v1 : Value} {w : World} {K : Value → World → Prop} (h : W27 v0 v1 w K) : callF Tryz.prog 27 [v0, v1] w K :=
  tie Tryz.prog 27 Tryz.f27 plan27 [v0, v1] w K 2 (W27 v0 v1 w K) rfl mixed Tryz.func27 W27_chk (W27_eq v0 v1 w K) Tryz.call27 h

/- purlin_report.Line -/
def plan28 : Plan := { js := [], ds := [] }
def W28 (v0 v1 : Value) (w : World) (K : Value → World → Prop) : Prop :=
  callF Tryz.prog 69 [v0, v1] w fun t11 w1 =>
  callF Tryz.prog 70 [t11, (.int .u8 10)] w1 fun t15 w2 =>
  binW .add t15 (.int .i64 1) fun t16 =>
  slsW v0 (some t16) none fun t17 =>
  callF Tryz.prog 72 [t17, (.string (ofL [10]))] w2 fun t18 w3 =>
  extW 0 t18 fun t19 =>
  extW 1 t18 fun t20 =>
  extW 2 t18 fun t21 =>
  callF Tryz.prog 73 [t19] w3 fun t23 w4 =>
  K t23 w4
theorem W28_eq (v0 v1 : Value) (w : World) (K : Value → World → Prop) : funW Tryz.prog Tryz.f28 plan28 [v0, v1] w K = W28 v0 v1 w K := by kernel_rfl
theorem W28_chk : chkFun Tryz.prog Tryz.f28 plan28 2 = true := by kernel_rfl
theorem W28_ok {v0 v1 : Value} {w : World} {K : Value → World → Prop} (h : W28 v0 v1 w K) : callF Tryz.prog 28 [v0, v1] w K :=
  tie Tryz.prog 28 Tryz.f28 plan28 [v0, v1] w K 2 (W28 v0 v1 w K) rfl mixed Tryz.func28 W28_chk (W28_eq v0 v1 w K) Tryz.call28 h

/- purlin_purlinref23.Line -/
def plan29 : Plan := { js := [(11005, ⟨[25], [], 22⟩), (8, ⟨[8], [], 8⟩)], ds := [] }
def W29 (v0 v1 : Value) (w : World) (K : Value → World → Prop) : Prop :=
  callF Tryz.prog 24 [v0, v1] w fun t12 w1 =>
  extW 0 t12 fun t13 =>
  extW 1 t12 fun t14 =>
  extW 2 t12 fun t15 =>
  LoopW [t15] w1 fun s2 _ w3 L2 =>
    lensW v0 fun t19 =>
    binW .lss (s2.getD 0 undef) t19 fun t20 =>
    GdW (isB t20 true) [undef] w3 (fun J4 =>
      ixsW v0 (s2.getD 0 undef) fun t24 =>
      binW .neq t24 (.int .u8 10) fun t25 =>
      J4 [t25] w3)
    fun s4 _ w5 =>
    pickW t20 (s4.getD 0 undef) (.bool false) fun t26 =>
    condW t26 (
      binW .add (s2.getD 0 undef) (.int .i64 1) fun t28 =>
      L2 [t28] w5) (
      slsW v0 (some t15) (some (s2.getD 0 undef)) fun t32 =>
      K t32 w5)
theorem W29_eq (v0 v1 : Value) (w : World) (K : Value → World → Prop) : funW Tryz.prog Tryz.f29 plan29 [v0, v1] w K = W29 v0 v1 w K := by kernel_rfl
theorem W29_chk : chkFun Tryz.prog Tryz.f29 plan29 2 = true := by kernel_rfl
theorem W29_ok {v0 v1 : Value} {w : World} {K : Value → World → Prop} (h : W29 v0 v1 w K) : callF Tryz.prog 29 [v0, v1] w K :=
  tie Tryz.prog 29 Tryz.f29 plan29 [v0, v1] w K 2 (W29 v0 v1 w K) rfl mixed Tryz.func29 W29_chk (W29_eq v0 v1 w K) Tryz.call29 h

/- purlin_report.Changes -/
def plan64 : Plan := { js := [(21, ⟨[8], [8], 14⟩), (8, ⟨[5, 13], [5, 7, 8], 13⟩)], ds := [(20, ⟨[0, 3, 4, 5, 7, 8, 9, 10, 12, 13], [[], [0], [0, 1], [0, 1, 2], [], [], [0, 1, 2, 4, 5], [0, 1, 2, 3, 4, 5, 6], [0, 1, 2, 3, 4, 5, 6, 7], [], [], [0, 1, 2, 4, 5, 6, 9, 10], [0, 1, 2, 3, 4, 5, 6, 7, 8, 9, 10, 11], [0, 1, 2, 3, 4, 5, 6, 7, 8, 9, 10, 11, 12]]⟩)] }
def W64 (v0 v1 : Value) (w : World) (K : Value → World → Prop) : Prop :=
  boxW 26 v0 w fun t2 w1 =>
  boxW 26 v1 w1 fun t3 w2 =>
  ldW true 5 t2 w2 fun t9 =>
  ldW true 5 t3 w2 fun t10 =>
  callF Tryz.prog 124 [t9, t10] w2 fun t11 w3 =>
  lenlW t11 fun t12 =>
  LoopW [(.slice none 0 0), (.int .i64 0)] w3 fun s4 _ w5 L4 =>
    binW .lss (s4.getD 1 undef) t12 fun t14 =>
    condW t14 (
      ixaW none 1 t11 (s4.getD 1 undef) fun t15 =>
      ldW false 1 t15 w5 fun t16 =>
      ldW true 5 t2 w5.drew fun t21 =>
      ldW true 5 t3 w5.drew fun t26 =>
      callF Tryz.prog 79 [t16] w5.drew fun t18 w6 =>
      (ldW true 5 t3 w6 fun x => x = t26) ∧
      (ldW true 5 t2 w6 fun x => x = t21) ∧
      callF Tryz.prog 125 [t18] w6 fun t19 w7 =>
      (ldW true 5 t3 w7 fun x => x = t26) ∧
      (ldW true 5 t2 w7 fun x => x = t21) ∧
      binW .add t19 (.string (ofL [58, 32])) fun t20 =>
      callF Tryz.prog 126 [t21, t16] w7 fun t23 w8 =>
      (ldW true 5 t3 w8 fun x => x = t26) ∧
      binW .add t20 t23 fun t24 =>
      binW .add t24 (.string (ofL [32, 45, 62, 32])) fun t25 =>
      callF Tryz.prog 126 [t26, t16] w8 fun t28 w9 =>
      binW .add t25 t28 fun t29 =>
      JoinW (fun J10 =>
        callF Tryz.prog 107 [t16, (.string (ofL [110, 101, 119, 95]))] w9 fun t31 w11 =>
        condW t31 (
          binW .add t29 (.string (ofL [32, 40, 110, 101, 119, 41])) fun t33 =>
          J10 [t33] w11) (
          J10 [t29] w11))
      fun s10 _ w12 =>
      bslW 9 1 [(.string (ofL []))] [(0, 1, (s10.getD 0 undef))] w12 fun t36 w13 =>
      semE Tryz.prog (Builtin.append_ #[24, 24] 24 #[(s4.getD 0 undef), t36]) w13 fun t37 w14 =>
      binW .add (s4.getD 1 undef) (.int .i64 1) fun t38 =>
      L4 [t37, t38] w14) (
      K (s4.getD 0 undef) w5)
theorem W64_eq (v0 v1 : Value) (w : World) (K : Value → World → Prop) : funW Tryz.prog Tryz.f64 plan64 [v0, v1] w K = W64 v0 v1 w K := by kernel_rfl
theorem W64_chk : chkFun Tryz.prog Tryz.f64 plan64 2 = true := by kernel_rfl
theorem W64_ok {v0 v1 : Value} {w : World} {K : Value → World → Prop} (h : W64 v0 v1 w K) : callF Tryz.prog 64 [v0, v1] w K :=
  tie Tryz.prog 64 Tryz.f64 plan64 [v0, v1] w K 2 (W64 v0 v1 w K) rfl mixed Tryz.func64 W64_chk (W64_eq v0 v1 w K) Tryz.call64 h

/- purlin_purlinref07.Runes -/
def plan66 : Plan := { js := [(8, ⟨[3, 4], [], 1⟩)], ds := [] }
def W66 (v0 : Value) (w : World) (K : Value → World → Prop) : Prop :=
  LoopW [(.slice none 0 0), (.int .i64 0)] w fun s1 _ w2 L1 =>
    lensW v0 fun t8 =>
    binW .lss (s1.getD 1 undef) t8 fun t9 =>
    condW t9 (
      callF Tryz.prog 127 [v0, (s1.getD 1 undef)] w2 fun t12 w3 =>
      maxW t12 (.int .i64 1) fun t13 =>
      binW .add (s1.getD 1 undef) t13 fun t19 =>
      slsW v0 (some (s1.getD 1 undef)) (some t19) fun t20 =>
      bslW 9 1 [(.string (ofL []))] [(0, 1, t20)] w3 fun t21 w4 =>
      semE Tryz.prog (Builtin.append_ #[24, 24] 24 #[(s1.getD 0 undef), t21]) w4 fun t22 w5 =>
      binW .add (s1.getD 1 undef) t13 fun t25 =>
      L1 [t22, t25] w5) (
      K (s1.getD 0 undef) w2)
theorem W66_eq (v0 : Value) (w : World) (K : Value → World → Prop) : funW Tryz.prog Tryz.f66 plan66 [v0] w K = W66 v0 w K := by kernel_rfl
theorem W66_chk : chkFun Tryz.prog Tryz.f66 plan66 1 = true := by kernel_rfl
theorem W66_ok {v0 : Value} {w : World} {K : Value → World → Prop} (h : W66 v0 w K) : callF Tryz.prog 66 [v0] w K :=
  tie Tryz.prog 66 Tryz.f66 plan66 [v0] w K 1 (W66 v0 w K) rfl mixed Tryz.func66 W66_chk (W66_eq v0 w K) Tryz.call66 h

/- purlin_report.ahead -/
def plan69 : Plan := { js := [], ds := [] }
def W69 (v0 v1 : Value) (w : World) (K : Value → World → Prop) : Prop :=
  maxW v1 (.int .i64 0) fun t7 =>
  lensW v0 fun t9 =>
  minW t7 t9 fun t10 =>
  slsW v0 none (some t10) fun t11 =>
  K t11 w
theorem W69_eq (v0 v1 : Value) (w : World) (K : Value → World → Prop) : funW Tryz.prog Tryz.f69 plan69 [v0, v1] w K = W69 v0 v1 w K := by kernel_rfl
theorem W69_chk : chkFun Tryz.prog Tryz.f69 plan69 2 = true := by kernel_rfl
theorem W69_ok {v0 v1 : Value} {w : World} {K : Value → World → Prop} (h : W69 v0 v1 w K) : callF Tryz.prog 69 [v0, v1] w K :=
  tie Tryz.prog 69 Tryz.f69 plan69 [v0, v1] w K 2 (W69 v0 v1 w K) rfl mixed Tryz.func69 W69_chk (W69_eq v0 v1 w K) Tryz.call69 h

/- purlin_report.shown -/
def plan125 : Plan := { js := [], ds := [] }
def W125 (v0 : Value) (w : World) (K : Value → World → Prop) : Prop :=
  boxW 26 v0 w fun t1 w1 =>
  ldW true 5 t1 w1 fun t5 =>
  callF Tryz.prog 43 [t5] w1 fun t6 w2 =>
  unW .not t6 fun t7 =>
  condW t7 (
    K (.string (ofL [40, 117, 110, 107, 110, 111, 119, 110, 41])) w2) (
    ldW true 5 t1 w2 fun t9 =>
    callF Tryz.prog 16 [t9] w2 fun t10 w3 =>
    extW 0 t10 fun t11 =>
    extW 1 t10 fun t12 =>
    binW .neq t12 (.int .i64 0) fun t14 =>
    condW t14 (
      K (.string (ofL [40, 118, 97, 108, 117, 101, 41])) w3) (
      K t11 w3))
theorem W125_eq (v0 : Value) (w : World) (K : Value → World → Prop) : funW Tryz.prog Tryz.f125 plan125 [v0] w K = W125 v0 w K := by kernel_rfl
theorem W125_chk : chkFun Tryz.prog Tryz.f125 plan125 1 = true := by kernel_rfl
theorem W125_ok {v0 : Value} {w : World} {K : Value → World → Prop} (h : W125 v0 w K) : callF Tryz.prog 125 [v0] w K :=
  tie Tryz.prog 125 Tryz.f125 plan125 [v0] w K 1 (W125 v0 w K) rfl mixed Tryz.func125 W125_chk (W125_eq v0 w K) Tryz.call125 h

/- purlin_report.item -/
def plan126 : Plan := { js := [], ds := [] }
def W126 (v0 v1 : Value) (w : World) (K : Value → World → Prop) : Prop :=
  boxW 26 v0 w fun t2 w1 =>
  ldW true 5 t2 w1 fun t8 =>
  callF Tryz.prog 162 [t8, v1] w1 fun t10 w2 =>
  extW 0 t10 fun t11 =>
  extW 1 t10 fun t12 =>
  allocW 26 [(.int .i64 0), (.bool false), (.string (ofL [])), (.slice none 0 0), (.slice none 0 0)] w2 fun t5 w3 =>
  stW 5 t5 t11 w3 fun w4 =>
  condW t12 (
    ldW true 5 t5 w4 fun t14 =>
    callF Tryz.prog 125 [t14] w4 fun t15 w5 =>
    K t15 w5) (
    K (.string (ofL [40, 110, 111, 110, 101, 41])) w4)
theorem W126_eq (v0 v1 : Value) (w : World) (K : Value → World → Prop) : funW Tryz.prog Tryz.f126 plan126 [v0, v1] w K = W126 v0 v1 w K := by kernel_rfl
theorem W126_chk : chkFun Tryz.prog Tryz.f126 plan126 2 = true := by kernel_rfl
theorem W126_ok {v0 v1 : Value} {w : World} {K : Value → World → Prop} (h : W126 v0 v1 w K) : callF Tryz.prog 126 [v0, v1] w K :=
  tie Tryz.prog 126 Tryz.f126 plan126 [v0, v1] w K 2 (W126 v0 v1 w K) rfl mixed Tryz.func126 W126_chk (W126_eq v0 v1 w K) Tryz.call126 h

/- purlin_purlinref03.Rune -/
def plan127 : Plan := { js := [(49003, ⟨[122], [], 121⟩), (44005, ⟨[93], [], 90⟩), (44011, ⟨[87], [], 84⟩), (44017, ⟨[81], [], 78⟩), (44021, ⟨[75], [], 74⟩), (28, ⟨[], [4], 6⟩), (35002, ⟨[69], [], 64⟩), (35004, ⟨[68], [], 67⟩), (35007, ⟨[66], [], 64⟩), (30005, ⟨[43], [], 40⟩), (30011, ⟨[37], [], 34⟩), (30015, ⟨[31], [], 30⟩), (22005, ⟨[25], [], 22⟩), (22009, ⟨[19], [], 18⟩)], ds := [] }
def W127 (v0 v1 : Value) (w : World) (K : Value → World → Prop) : Prop :=
  callF Tryz.prog 170 [v0, v1] w fun t10 w1 =>
  binW .lss t10 (.int .i64 0) fun t12 =>
  condW t12 (
    K (.int .i64 0) w1) (
    binW .lss t10 (.int .i64 128) fun t14 =>
    condW t14 (
      K (.int .i64 1) w1) (
      binW .geq t10 (.int .i64 194) fun t16 =>
      GdW (isB t16 true) [undef] w1 (fun J2 =>
        binW .lss t10 (.int .i64 224) fun t19 =>
        J2 [t19] w1)
      fun s2 _ w3 =>
      pickW t16 (s2.getD 0 undef) (.bool false) fun t20 =>
      GdW (isB t20 true) [undef] w3 (fun J4 =>
        binW .add v1 (.int .i64 1) fun t24 =>
        callF Tryz.prog 171 [v0, t24] w3 fun t25 w5 =>
        J4 [t25] w5)
      fun s4 _ w6 =>
      pickW t20 (s4.getD 0 undef) (.bool false) fun t26 =>
      condW t26 (
        K (.int .i64 2) w6) (
        JoinW (fun J7 =>
          binW .geq t10 (.int .i64 224) fun t28 =>
          GdW (isB t28 true) [undef] w6 (fun J8 =>
            binW .lss t10 (.int .i64 240) fun t31 =>
            J8 [t31] w6)
          fun s8 _ w9 =>
          pickW t28 (s8.getD 0 undef) (.bool false) fun t32 =>
          GdW (isB t32 true) [undef] w9 (fun J10 =>
            binW .add v1 (.int .i64 1) fun t36 =>
            callF Tryz.prog 171 [v0, t36] w9 fun t37 w11 =>
            J10 [t37] w11)
          fun s10 _ w12 =>
          pickW t32 (s10.getD 0 undef) (.bool false) fun t38 =>
          GdW (isB t38 true) [undef] w12 (fun J13 =>
            binW .add v1 (.int .i64 2) fun t42 =>
            callF Tryz.prog 171 [v0, t42] w12 fun t43 w14 =>
            J13 [t43] w14)
          fun s13 _ w15 =>
          pickW t38 (s13.getD 0 undef) (.bool false) fun t44 =>
          condW t44 (
            binW .sub t10 (.int .i64 224) fun t46 =>
            binW .mul t46 (.int .i64 4096) fun t47 =>
            binW .add v1 (.int .i64 1) fun t50 =>
            callF Tryz.prog 170 [v0, t50] w15 fun t51 w16 =>
            binW .sub t51 (.int .i64 128) fun t52 =>
            binW .mul t52 (.int .i64 64) fun t53 =>
            binW .add t47 t53 fun t54 =>
            binW .add v1 (.int .i64 2) fun t57 =>
            callF Tryz.prog 170 [v0, t57] w16 fun t58 w17 =>
            binW .add t54 t58 fun t59 =>
            binW .sub t59 (.int .i64 128) fun t60 =>
            binW .geq t60 (.int .i64 2048) fun t62 =>
            GdW (isB t62 true) [undef] w17 (fun J18 =>
              binW .lss t60 (.int .i64 55296) fun t65 =>
              J18 [t65] w17)
            fun s18 _ w19 =>
            GdW (isB (s18.getD 0 undef) false) [undef] w19 (fun J20 =>
              binW .gtr t60 (.int .i64 57343) fun t68 =>
              J20 [t68] w19)
            fun s20 _ w21 =>
            GdW (isB t62 true) [undef] w21 (fun J22 =>
              pickW (s18.getD 0 undef) (.bool true) (s20.getD 0 undef) fun t69 =>
              J22 [t69] w21)
            fun s22 _ w23 =>
            pickW t62 (s22.getD 0 undef) (.bool false) fun t70 =>
            condW t70 (
              K (.int .i64 3) w23) (
              J7 [] w23)) (
            J7 [] w15))
        fun s7 _ w24 =>
        binW .geq t10 (.int .i64 240) fun t72 =>
        GdW (isB t72 true) [undef] w24 (fun J25 =>
          binW .lss t10 (.int .i64 245) fun t75 =>
          J25 [t75] w24)
        fun s25 _ w26 =>
        pickW t72 (s25.getD 0 undef) (.bool false) fun t76 =>
        GdW (isB t76 true) [undef] w26 (fun J27 =>
          binW .add v1 (.int .i64 1) fun t80 =>
          callF Tryz.prog 171 [v0, t80] w26 fun t81 w28 =>
          J27 [t81] w28)
        fun s27 _ w29 =>
        pickW t76 (s27.getD 0 undef) (.bool false) fun t82 =>
        GdW (isB t82 true) [undef] w29 (fun J30 =>
          binW .add v1 (.int .i64 2) fun t86 =>
          callF Tryz.prog 171 [v0, t86] w29 fun t87 w31 =>
          J30 [t87] w31)
        fun s30 _ w32 =>
        pickW t82 (s30.getD 0 undef) (.bool false) fun t88 =>
        GdW (isB t88 true) [undef] w32 (fun J33 =>
          binW .add v1 (.int .i64 3) fun t92 =>
          callF Tryz.prog 171 [v0, t92] w32 fun t93 w34 =>
          J33 [t93] w34)
        fun s33 _ w35 =>
        pickW t88 (s33.getD 0 undef) (.bool false) fun t94 =>
        condW t94 (
          binW .sub t10 (.int .i64 240) fun t96 =>
          binW .mul t96 (.int .i64 262144) fun t97 =>
          binW .add v1 (.int .i64 1) fun t100 =>
          callF Tryz.prog 170 [v0, t100] w35 fun t101 w36 =>
          binW .sub t101 (.int .i64 128) fun t102 =>
          binW .mul t102 (.int .i64 4096) fun t103 =>
          binW .add t97 t103 fun t104 =>
          binW .add v1 (.int .i64 2) fun t107 =>
          callF Tryz.prog 170 [v0, t107] w36 fun t108 w37 =>
          binW .sub t108 (.int .i64 128) fun t109 =>
          binW .mul t109 (.int .i64 64) fun t110 =>
          binW .add t104 t110 fun t111 =>
          binW .add v1 (.int .i64 3) fun t114 =>
          callF Tryz.prog 170 [v0, t114] w37 fun t115 w38 =>
          binW .add t111 t115 fun t116 =>
          binW .sub t116 (.int .i64 128) fun t117 =>
          binW .geq t117 (.int .i64 65536) fun t119 =>
          GdW (isB t119 true) [undef] w38 (fun J39 =>
            binW .leq t117 (.int .i64 1114111) fun t122 =>
            J39 [t122] w38)
          fun s39 _ w40 =>
          pickW t119 (s39.getD 0 undef) (.bool false) fun t123 =>
          condW t123 (
            K (.int .i64 4) w40) (
            K (.int .i64 0) w40)) (
          K (.int .i64 0) w35))))
theorem W127_eq (v0 v1 : Value) (w : World) (K : Value → World → Prop) : funW Tryz.prog Tryz.f127 plan127 [v0, v1] w K = W127 v0 v1 w K := by kernel_rfl
theorem W127_chk : chkFun Tryz.prog Tryz.f127 plan127 2 = true := by kernel_rfl
theorem W127_ok {v0 v1 : Value} {w : World} {K : Value → World → Prop} (h : W127 v0 v1 w K) : callF Tryz.prog 127 [v0, v1] w K :=
  tie Tryz.prog 127 Tryz.f127 plan127 [v0, v1] w K 2 (W127 v0 v1 w K) rfl mixed Tryz.func127 W127_chk (W127_eq v0 v1 w K) Tryz.call127 h

/- purlin_purlinref03.one -/
def plan170 : Plan := { js := [], ds := [] }
def W170 (v0 v1 : Value) (w : World) (K : Value → World → Prop) : Prop :=
  lensW v0 fun t7 =>
  binW .geq v1 t7 fun t8 =>
  condW t8 (
    K (.int .i64 (-1)) w) (
    ixsW v0 v1 fun t11 =>
    cvtW .i64 t11 fun t12 =>
    K t12 w)
theorem W170_eq (v0 v1 : Value) (w : World) (K : Value → World → Prop) : funW Tryz.prog Tryz.f170 plan170 [v0, v1] w K = W170 v0 v1 w K := by kernel_rfl
theorem W170_chk : chkFun Tryz.prog Tryz.f170 plan170 2 = true := by kernel_rfl
theorem W170_ok {v0 v1 : Value} {w : World} {K : Value → World → Prop} (h : W170 v0 v1 w K) : callF Tryz.prog 170 [v0, v1] w K :=
  tie Tryz.prog 170 Tryz.f170 plan170 [v0, v1] w K 2 (W170 v0 v1 w K) rfl mixed Tryz.func170 W170_chk (W170_eq v0 v1 w K) Tryz.call170 h

/- purlin_purlinref03.more -/
def plan171 : Plan := { js := [(3006, ⟨[13], [], 10⟩)], ds := [] }
def W171 (v0 v1 : Value) (w : World) (K : Value → World → Prop) : Prop :=
  callF Tryz.prog 170 [v0, v1] w fun t7 w1 =>
  binW .geq t7 (.int .i64 128) fun t8 =>
  GdW (isB t8 true) [undef] w1 (fun J2 =>
    callF Tryz.prog 170 [v0, v1] w1 fun t12 w3 =>
    binW .lss t12 (.int .i64 192) fun t13 =>
    J2 [t13] w3)
  fun s2 _ w4 =>
  pickW t8 (s2.getD 0 undef) (.bool false) fun t14 =>
  K t14 w4
theorem W171_eq (v0 v1 : Value) (w : World) (K : Value → World → Prop) : funW Tryz.prog Tryz.f171 plan171 [v0, v1] w K = W171 v0 v1 w K := by kernel_rfl
theorem W171_chk : chkFun Tryz.prog Tryz.f171 plan171 2 = true := by kernel_rfl
theorem W171_ok {v0 v1 : Value} {w : World} {K : Value → World → Prop} (h : W171 v0 v1 w K) : callF Tryz.prog 171 [v0, v1] w K :=
  tie Tryz.prog 171 Tryz.f171 plan171 [v0, v1] w K 2 (W171 v0 v1 w K) rfl mixed Tryz.func171 W171_chk (W171_eq v0 v1 w K) Tryz.call171 h

/- purlin_purlinlaw23.ReportErrors -/
def plan8 : Plan := { js := [(4004, ⟨[13], [], 11⟩)], ds := [(13, ⟨[0, 2, 3, 4, 5, 7, 8, 9, 11, 12, 13, 14, 16, 17, 18, 19, 21, 22, 23], [[], [0], [], [2], [2, 3], [], [0, 1, 5], [0, 1, 2, 3, 4, 5, 6], [0, 1, 2, 3, 4, 5, 6, 7], [], [0, 1, 5, 6, 9], [0, 1, 2, 3, 4, 5, 6, 7, 8, 9, 10], [0, 1, 2, 3, 4, 5, 6, 7, 8, 9, 10, 11], [], [13], [0, 1, 5, 6, 9, 10, 13, 14], [0, 1, 2, 3, 4, 5, 6, 7, 8, 9, 10, 11, 12, 13, 14, 15], [0, 1, 2, 3, 4, 5, 6, 7, 8, 9, 10, 11, 12, 13, 14, 15, 16], [0, 1, 2, 3, 4, 5, 6, 7, 8, 9, 10, 11, 12, 13, 14, 15, 16, 17], [0, 1, 2, 3, 4, 5, 6, 7, 8, 9, 10, 11, 12, 13, 14, 15, 16, 17, 18], [0, 1, 2, 3, 4, 5, 6, 7, 8, 9, 10, 11, 12, 13, 14, 15, 16, 17, 18, 19], [0, 1, 2, 3, 4, 5, 6, 7, 8, 9, 10, 11, 12, 13, 14, 15, 16, 17, 18, 19, 20], [0, 1, 2, 3, 4, 5, 6, 7, 8, 9, 10, 11, 12, 13, 14, 15, 16, 17, 18, 19, 20, 21], [0, 1, 2, 3, 4, 5, 6, 7, 8, 9, 10, 11, 12, 13, 14, 15, 16, 17, 18, 19, 20, 21, 22]]⟩)] }
def W8 (v0 v1 : Value) (w : World) (K : Value → World → Prop) : Prop :=
  boxW 49 v1 w fun t3 w1 =>
  callF Tryz.prog 23 [] w1 fun t8 w2 =>
  unW .not t8 fun t9 =>
  GdW (isB t9 false) [undef] w2 (fun J3 =>
    lensW v0 fun t12 =>
    binW .gtr t12 (.int .i64 20000) fun t13 =>
    J3 [t13] w2)
  fun s3 _ w4 =>
  pickW t9 (.bool true) (s3.getD 0 undef) fun t14 =>
  condW t14 (
    callF Tryz.prog 23 [] w4 fun t15 w5 =>
    K t15 w5) (
    fldW 2 t3 fun t18 =>
    ldW false 1 t18 w4 fun t19 =>
    callF Tryz.prog 24 [v0, t19] w4 fun t20 w6 =>
    extW 0 t20 fun t21 =>
    extW 1 t20 fun t22 =>
    extW 2 t20 fun t23 =>
    fldW 1 t3 fun t26 =>
    ldW false 1 t26 w6.drew fun t27 =>
    binW .add t27 (.string (ofL [58])) fun t28 =>
    fldW 0 t3 fun t37 =>
    ldW false 1 t37 w6.drew fun t38 =>
    callF Tryz.prog 25 [v0, t3] w6.drew fun t25 w7 =>
    (ldW false 1 t37 w7 fun x => x = t38) ∧
    (ldW false 1 t26 w7 fun x => x = t27) ∧
    callF Tryz.prog 26 [t21] w7 fun t30 w8 =>
    (ldW false 1 t37 w8 fun x => x = t38) ∧
    (ldW false 1 t26 w8 fun x => x = t27) ∧
    binW .add t28 t30 fun t31 =>
    binW .add t31 (.string (ofL [58])) fun t32 =>
    callF Tryz.prog 26 [t22] w8 fun t34 w9 =>
    (ldW false 1 t37 w9 fun x => x = t38) ∧
    (ldW false 1 t26 w9 fun x => x = t27) ∧
    binW .add t32 t34 fun t35 =>
    binW .add t35 (.string (ofL [58, 32])) fun t36 =>
    callF Tryz.prog 26 [t38] w9 fun t39 w10 =>
    (ldW false 1 t26 w10 fun x => x = t27) ∧
    binW .add t36 t39 fun t40 =>
    binW .eql t25 t40 fun t41 =>
    GqW (isB t41 true) (fun k11 => k11 v0) fun t43 =>
    GeW (isB t41 true) w10 (fun k12 => callF Tryz.prog 25 [t43, (.pointer none)] w10 k12) fun t44 w13 =>
    GqW (isB t41 true) (fun k14 => binW .eql t44 (.string (ofL [111, 107])) k14) fun t45 =>
    pickW t41 t45 (.bool false) fun t46 =>
    K t46 w13)
theorem W8_eq (v0 v1 : Value) (w : World) (K : Value → World → Prop) : funW Tryz.prog Tryz.f8 plan8 [v0, v1] w K = W8 v0 v1 w K := by kernel_rfl
theorem W8_chk : chkFun Tryz.prog Tryz.f8 plan8 2 = true := by kernel_rfl
theorem W8_ok {v0 v1 : Value} {w : World} {K : Value → World → Prop} (h : W8 v0 v1 w K) : callF Tryz.prog 8 [v0, v1] w K :=
  tie Tryz.prog 8 Tryz.f8 plan8 [v0, v1] w K 2 (W8 v0 v1 w K) rfl mixed Tryz.func8 W8_chk (W8_eq v0 v1 w K) Tryz.call8 h

/- purlin_purlinlaw23.ReportPlaces -/
def plan9 : Plan := { js := [(15009, ⟨[46], [], 40⟩), (15014, ⟨[37], [], 35⟩), (4004, ⟨[15], [], 13⟩)], ds := [] }
def W9 (v0 v1 : Value) (w : World) (K : Value → World → Prop) : Prop :=
  callF Tryz.prog 23 [] w fun t10 w1 =>
  unW .not t10 fun t11 =>
  GdW (isB t11 false) [undef] w1 (fun J2 =>
    lensW v0 fun t14 =>
    binW .gtr t14 (.int .i64 20000) fun t15 =>
    J2 [t15] w1)
  fun s2 _ w3 =>
  pickW t11 (.bool true) (s2.getD 0 undef) fun t16 =>
  condW t16 (
    callF Tryz.prog 23 [] w3 fun t17 w4 =>
    K t17 w4) (
    callF Tryz.prog 27 [v0, v1] w3 fun t21 w5 =>
    extW 0 t21 fun t22 =>
    extW 1 t21 fun t23 =>
    callF Tryz.prog 24 [v0, v1] w5 fun t27 w6 =>
    extW 0 t27 fun t28 =>
    extW 1 t27 fun t29 =>
    extW 2 t27 fun t30 =>
    binW .eql t22 t28 fun t33 =>
    GdW (isB t33 true) [undef] w6 (fun J7 =>
      binW .eql t23 t29 fun t37 =>
      J7 [t37] w6)
    fun s7 _ w8 =>
    pickW t33 (s7.getD 0 undef) (.bool false) fun t38 =>
    GdW (isB t38 true) [undef] w8 (fun J9 =>
      callF Tryz.prog 28 [v0, v1] w8 fun t42 w10 =>
      callF Tryz.prog 29 [v0, v1] w10 fun t45 w11 =>
      binW .eql t42 t45 fun t46 =>
      J9 [t46] w11)
    fun s9 _ w12 =>
    pickW t38 (s9.getD 0 undef) (.bool false) fun t47 =>
    K t47 w12)
theorem W9_eq (v0 v1 : Value) (w : World) (K : Value → World → Prop) : funW Tryz.prog Tryz.f9 plan9 [v0, v1] w K = W9 v0 v1 w K := by kernel_rfl
theorem W9_chk : chkFun Tryz.prog Tryz.f9 plan9 2 = true := by kernel_rfl
theorem W9_ok {v0 v1 : Value} {w : World} {K : Value → World → Prop} (h : W9 v0 v1 w K) : callF Tryz.prog 9 [v0, v1] w K :=
  tie Tryz.prog 9 Tryz.f9 plan9 [v0, v1] w K 2 (W9 v0 v1 w K) rfl mixed Tryz.func9 W9_chk (W9_eq v0 v1 w K) Tryz.call9 h

/- purlin_purlinlaw23.ReportOrder -/
def plan10 : Plan := { js := [(39, ⟨[5], [5], 9⟩), (33002, ⟨[64], [], 50⟩), (33003, ⟨[63], [], 55⟩), (33008, ⟨[62], [], 58⟩), (33011, ⟨[57], [], 55⟩), (33016, ⟨[54], [], 50⟩), (33019, ⟨[47], [], 40⟩), (33022, ⟨[46], [], 44⟩), (33026, ⟨[43], [], 40⟩), (33032, ⟨[37], [], 34⟩), (20, ⟨[3, 4, 5, 6], [], 1⟩)], ds := [] }
def W10 (v0 : Value) (w : World) (K : Value → World → Prop) : Prop :=
  callF Tryz.prog 23 [] w fun t9 w1 =>
  unW .not t9 fun t10 =>
  condW t10 (
    K (.bool false) w1) (
    lensW v0 fun t13 =>
    minW t13 (.int .i64 500) fun t14 =>
    slsW v0 none (some t14) fun t15 =>
    callF Tryz.prog 28 [t15, (.int .i64 0)] w1 fun t17 w2 =>
    LoopW [(.int .i64 1), (.int .i64 1), t17, (.int .i64 0)] w2 fun s3 _ w4 L3 =>
      lensW t15 fun t20 =>
      binW .leq (s3.getD 3 undef) t20 fun t21 =>
      condW t21 (
        callF Tryz.prog 27 [t15, (s3.getD 3 undef)] w4 fun t27 w5 =>
        extW 0 t27 fun t28 =>
        extW 1 t27 fun t29 =>
        binW .lss t28 (s3.getD 0 undef) fun t32 =>
        GdW (isB t32 false) [undef] w5 (fun J6 =>
          binW .add (s3.getD 0 undef) (.int .i64 1) fun t36 =>
          binW .gtr t28 t36 fun t37 =>
          J6 [t37] w5)
        fun s6 _ w7 =>
        pickW t32 (.bool true) (s6.getD 0 undef) fun t38 =>
        GdW (isB t38 false) [undef] w7 (fun J8 =>
          binW .eql t28 (s3.getD 0 undef) fun t42 =>
          J8 [t42] w7)
        fun s8 _ w9 =>
        GdW (isB (s8.getD 0 undef) true) [undef] w9 (fun J10 =>
          binW .lss t29 (s3.getD 1 undef) fun t46 =>
          J10 [t46] w9)
        fun s10 _ w11 =>
        GdW (isB t38 false) [undef] w11 (fun J12 =>
          pickW (s8.getD 0 undef) (s10.getD 0 undef) (.bool false) fun t47 =>
          J12 [t47] w11)
        fun s12 _ w13 =>
        pickW t38 (.bool true) (s12.getD 0 undef) fun t48 =>
        GdW (isB t48 false) [undef] w13 (fun J14 =>
          binW .add (s3.getD 0 undef) (.int .i64 1) fun t52 =>
          binW .eql t28 t52 fun t53 =>
          J14 [t53] w13)
        fun s14 _ w15 =>
        GdW (isB (s14.getD 0 undef) true) [undef] w15 (fun J16 =>
          binW .neq t29 (.int .i64 1) fun t56 =>
          J16 [t56] w15)
        fun s16 _ w17 =>
        GdW (isB (s16.getD 0 undef) false) [undef] w17 (fun J18 =>
          binW .sub (s3.getD 3 undef) (.int .i64 1) fun t60 =>
          ixsW t15 t60 fun t61 =>
          binW .neq t61 (.int .u8 10) fun t62 =>
          J18 [t62] w17)
        fun s18 _ w19 =>
        GdW (isB (s14.getD 0 undef) true) [undef] w19 (fun J20 =>
          pickW (s16.getD 0 undef) (.bool true) (s18.getD 0 undef) fun t63 =>
          J20 [t63] w19)
        fun s20 _ w21 =>
        GdW (isB t48 false) [undef] w21 (fun J22 =>
          pickW (s14.getD 0 undef) (s20.getD 0 undef) (.bool false) fun t64 =>
          J22 [t64] w21)
        fun s22 _ w23 =>
        pickW t48 (.bool true) (s22.getD 0 undef) fun t65 =>
        condW t65 (
          K (.bool false) w23) (
          JoinW (fun J24 =>
            binW .gtr t28 (s3.getD 0 undef) fun t68 =>
            condW t68 (
              callF Tryz.prog 28 [t15, (s3.getD 3 undef)] w23 fun t72 w25 =>
              binW .add (.string (ofL [10])) t72 fun t73 =>
              binW .add (s3.getD 2 undef) t73 fun t74 =>
              J24 [t74] w25) (
              J24 [(s3.getD 2 undef)] w23))
          fun s24 _ w26 =>
          binW .add (s3.getD 3 undef) (.int .i64 1) fun t23 =>
          L3 [t28, t29, (s24.getD 0 undef), t23] w26)) (
        binW .eql (s3.getD 2 undef) t15 fun t79 =>
        K t79 w4))
theorem W10_eq (v0 : Value) (w : World) (K : Value → World → Prop) : funW Tryz.prog Tryz.f10 plan10 [v0] w K = W10 v0 w K := by kernel_rfl
theorem W10_chk : chkFun Tryz.prog Tryz.f10 plan10 1 = true := by kernel_rfl
theorem W10_ok {v0 : Value} {w : World} {K : Value → World → Prop} (h : W10 v0 w K) : callF Tryz.prog 10 [v0] w K :=
  tie Tryz.prog 10 Tryz.f10 plan10 [v0] w K 1 (W10 v0 w K) rfl mixed Tryz.func10 W10_chk (W10_eq v0 w K) Tryz.call10 h

/- strings.Clone -/
def plan73 : Plan := { js := [], ds := [] }
def W73 (v0 : Value) (w : World) (K : Value → World → Prop) : Prop :=
  callF Tryz.prog 134 [v0] w fun t4 w1 =>
  K t4 w1
theorem W73_eq (v0 : Value) (w : World) (K : Value → World → Prop) : funW Tryz.prog Tryz.f73 plan73 [v0] w K = W73 v0 w K := by kernel_rfl
theorem W73_chk : chkFun Tryz.prog Tryz.f73 plan73 1 = true := by kernel_rfl
theorem W73_ok {v0 : Value} {w : World} {K : Value → World → Prop} (h : W73 v0 w K) : callF Tryz.prog 73 [v0] w K :=
  tie Tryz.prog 73 Tryz.f73 plan73 [v0] w K 1 (W73 v0 w K) rfl mixed Tryz.func73 W73_chk (W73_eq v0 w K) Tryz.call73 h

/- strings.Cut -/
def plan72 : Plan := { js := [], ds := [] }
def W72 (v0 v1 : Value) (w : World) (K : Value → World → Prop) : Prop :=
  callF Tryz.prog 133 [v0, v1] w fun t9 w1 =>
  extW 0 t9 fun t10 =>
  extW 1 t9 fun t11 =>
  extW 2 t9 fun t12 =>
  K (.tuple #[t10, t11, t12]) w1
theorem W72_eq (v0 v1 : Value) (w : World) (K : Value → World → Prop) : funW Tryz.prog Tryz.f72 plan72 [v0, v1] w K = W72 v0 v1 w K := by kernel_rfl
theorem W72_chk : chkFun Tryz.prog Tryz.f72 plan72 2 = true := by kernel_rfl
theorem W72_ok {v0 v1 : Value} {w : World} {K : Value → World → Prop} (h : W72 v0 v1 w K) : callF Tryz.prog 72 [v0, v1] w K :=
  tie Tryz.prog 72 Tryz.f72 plan72 [v0, v1] w K 2 (W72 v0 v1 w K) rfl mixed Tryz.func72 W72_chk (W72_eq v0 v1 w K) Tryz.call72 h

/- internal_stringslite.Cut -/
def plan133 : Plan := { js := [], ds := [(9, ⟨[0, 1, 2, 3, 4, 5, 6, 7, 8, 9, 10, 11], [[], [], [0, 1], [], [], [], [5], [4, 5, 6], [3, 4, 5, 6, 7], [0, 1, 2], [0, 1, 2, 3, 4, 5, 6, 7, 8, 9], [0, 1, 2, 3, 4, 5, 6, 7, 8, 9, 10]]⟩)] }
def W133 (v0 v1 : Value) (w : World) (K : Value → World → Prop) : Prop :=
  callF Tryz.prog 173 [v0, v1] w fun t10 w1 =>
  binW .geq t10 (.int .i64 0) fun t12 =>
  condW t12 (
    slsW v0 none (some t10) fun t15 =>
    lensW v1 fun t19 =>
    binW .add t10 t19 fun t20 =>
    slsW v0 (some t20) none fun t21 =>
    K (.tuple #[t15, t21, (.bool true)]) w1.drew) (
    K (.tuple #[v0, (.string (ofL [])), (.bool false)]) w1)
theorem W133_eq (v0 v1 : Value) (w : World) (K : Value → World → Prop) : funW Tryz.prog Tryz.f133 plan133 [v0, v1] w K = W133 v0 v1 w K := by kernel_rfl
theorem W133_chk : chkFun Tryz.prog Tryz.f133 plan133 2 = true := by kernel_rfl
theorem W133_ok {v0 v1 : Value} {w : World} {K : Value → World → Prop} (h : W133 v0 v1 w K) : callF Tryz.prog 133 [v0, v1] w K :=
  tie Tryz.prog 133 Tryz.f133 plan133 [v0, v1] w K 2 (W133 v0 v1 w K) rfl mixed Tryz.func133 W133_chk (W133_eq v0 v1 w K) Tryz.call133 h

/- internal_stringslite.Index -/
def plan173 : Plan := { js := [(96004, ⟨[131], [], 129⟩), (96011, ⟨[126], [], 122⟩), (80005, ⟨[106], [], 103⟩), (69009, ⟨[92], [], 85⟩), (51, ⟨[8], [4, 8], 11⟩), (43, ⟨[8, 10], [4, 8], 10⟩), (25005, ⟨[43], [], 41⟩), (7005, ⟨[22], [], 20⟩)], ds := [] }
def W173 (v0 v1 : Value) (w : World) (K : Value → World → Prop) : Prop :=
  lensW v1 fun t15 =>
  binW .eql t15 (.int .i64 0) fun t18 =>
  GdW (isB t18 false) [undef] w (fun J1 =>
    binW .eql v1 v0 fun t22 =>
    J1 [t22] w)
  fun s1 _ w2 =>
  pickW t18 (.bool true) (s1.getD 0 undef) fun t23 =>
  condW t23 (
    K (.int .i64 0) w2) (
    binW .eql t15 (.int .i64 1) fun t26 =>
    condW t26 (
      ixsW v1 (.int .i64 0) fun t29 =>
      callF Tryz.prog 141 [v0, t29] w2 fun t30 w3 =>
      K t30 w3) (
      lensW v0 fun t34 =>
      binW .geq t15 t34 fun t35 =>
      condW t35 (
        K (.int .i64 (-1)) w2) (
        ldW false 1 (.pointer (some ⟨2, 0, none⟩)) w2 fun t38 =>
        binW .leq t15 t38 fun t39 =>
        GdW (isB t39 true) [undef] w2 (fun J4 =>
          lensW v0 fun t42 =>
          binW .leq t42 (.int .i64 64) fun t43 =>
          J4 [t43] w2)
        fun s4 _ w5 =>
        pickW t39 (s4.getD 0 undef) (.bool false) fun t44 =>
        condW t44 (
          callF Tryz.prog 200 [v0, v1] w5 fun t47 w6 =>
          K t47 w6) (
          ixsW v1 (.int .i64 0) fun t49 =>
          ixsW v1 (.int .i64 1) fun t51 =>
          lensW v0 fun t53 =>
          binW .sub t53 t15 fun t55 =>
          binW .add t55 (.int .i64 1) fun t56 =>
          LoopW [(.int .i64 0), (.int .i64 0)] w5 fun s7 _ w8 L7 =>
            binW .lss (s7.getD 0 undef) t56 fun t59 =>
            condW t59 (
              JoinW (fun J9 =>
                ixsW v0 (s7.getD 0 undef) fun t62 =>
                binW .neq t62 t49 fun t64 =>
                condW t64 (
                  binW .add (s7.getD 0 undef) (.int .i64 1) fun t67 =>
                  slsW v0 (some t67) (some t56) fun t69 =>
                  callF Tryz.prog 141 [t69, t49] w8 fun t71 w10 =>
                  binW .lss t71 (.int .i64 0) fun t73 =>
                  condW t73 (
                    K (.int .i64 (-1)) w10) (
                    binW .add t71 (.int .i64 1) fun t76 =>
                    binW .add (s7.getD 0 undef) t76 fun t77 =>
                    J9 [t77] w10)) (
                  J9 [(s7.getD 0 undef)] w8))
              fun s9 _ w11 =>
              binW .add (s9.getD 0 undef) (.int .i64 1) fun t80 =>
              ixsW v0 t80 fun t81 =>
              binW .eql t81 t51 fun t83 =>
              GdW (isB t83 true) [undef] w11 (fun J12 =>
                binW .add (s9.getD 0 undef) t15 fun t89 =>
                slsW v0 (some (s9.getD 0 undef)) (some t89) fun t90 =>
                binW .eql t90 v1 fun t92 =>
                J12 [t92] w11)
              fun s12 _ w13 =>
              pickW t83 (s12.getD 0 undef) (.bool false) fun t93 =>
              condW t93 (
                K (s9.getD 0 undef) w13) (
                binW .add (s9.getD 0 undef) (.int .i64 1) fun t96 =>
                binW .add (s7.getD 1 undef) (.int .i64 1) fun t98 =>
                ldW false 1 (.pointer (some ⟨2, 0, none⟩)) w13 fun t100 =>
                binW .leq t15 t100 fun t101 =>
                GdW (isB t101 true) [undef] w13 (fun J14 =>
                  callF Tryz.prog 201 [t96] w13 fun t105 w15 =>
                  binW .gtr t98 t105 fun t106 =>
                  J14 [t106] w15)
                fun s14 _ w16 =>
                pickW t101 (s14.getD 0 undef) (.bool false) fun t107 =>
                condW t107 (
                  slsW v0 (some t96) none fun t110 =>
                  callF Tryz.prog 200 [t110, v1] w16 fun t112 w17 =>
                  binW .geq t112 (.int .i64 0) fun t114 =>
                  condW t114 (
                    binW .add t112 t96 fun t117 =>
                    K t117 w17) (
                    K (.int .i64 (-1)) w17)) (
                  ldW false 1 (.pointer (some ⟨2, 0, none⟩)) w16 fun t119 =>
                  binW .gtr t15 t119 fun t120 =>
                  GdW (isB t120 true) [undef] w16 (fun J18 =>
                    binW .shr t96 (.int .u64 4) fun t124 =>
                    binW .add (.int .i64 4) t124 fun t125 =>
                    binW .geq t98 t125 fun t126 =>
                    J18 [t126] w16)
                  fun s18 _ w19 =>
                  pickW t120 (s18.getD 0 undef) (.bool false) fun t127 =>
                  GdW (isB t127 true) [undef] w19 (fun J20 =>
                    binW .lss t96 t56 fun t131 =>
                    J20 [t131] w19)
                  fun s20 _ w21 =>
                  pickW t127 (s20.getD 0 undef) (.bool false) fun t132 =>
                  condW t132 (
                    slsW v0 (some t96) none fun t135 =>
                    callF Tryz.prog 202 [t135, v1] w21 fun t137 w22 =>
                    binW .lss t137 (.int .i64 0) fun t139 =>
                    condW t139 (
                      K (.int .i64 (-1)) w22) (
                      binW .add t96 t137 fun t142 =>
                      K t142 w22)) (
                    L7 [t96, t98] w21)))) (
              K (.int .i64 (-1)) w8)))))
theorem W173_eq (v0 v1 : Value) (w : World) (K : Value → World → Prop) : funW Tryz.prog Tryz.f173 plan173 [v0, v1] w K = W173 v0 v1 w K := by kernel_rfl
theorem W173_chk : chkFun Tryz.prog Tryz.f173 plan173 2 = true := by kernel_rfl
theorem W173_ok {v0 v1 : Value} {w : World} {K : Value → World → Prop} (h : W173 v0 v1 w K) : callF Tryz.prog 173 [v0, v1] w K :=
  tie Tryz.prog 173 Tryz.f173 plan173 [v0, v1] w K 2 (W173 v0 v1 w K) rfl mixed Tryz.func173 W173_chk (W173_eq v0 v1 w K) Tryz.call173 h


end Go.Proofs.YtcnjpcadejcenaaGreatDoor

namespace Go.Proofs.YtcnjpcadejcenaaGreatDoor
open Go Go.Eng
set_option maxRecDepth 100000
section
variable [HX]
theorem byteM_lo (s : Str) (i : Nat) : -1 ≤ byteM s i ∧ byteM s i ≤ 255 := by
  rcases Nat.lt_or_ge i s.length with h | h
  · rw [byteM_in h]; have := bt_lt s i; omega
  · rw [byteM_out h]; omega
theorem one_ref {s : Str} {i : Nat} {w : World} {K : Value → World → Prop} (hl : s.length ≤ 4611686018427387904) (hK : K (i64 (byteM s i)) w) : callF Tryz.prog 170 [str s, i64 (i : Int)] w K := by
  refine W170_ok ?_
  unfold W170
  rw [lens_str, bin_geq]
  rcases Nat.lt_or_ge i s.length with h | h
  · rw [decide_eq_false (by omega), condW_false, ixs_str]
    refine ⟨by omega, s[i], by simp [h], ?_⟩
    rw [cvt_int]
    have e : byteM s i = (s[i].toNat : Int) := by
      rw [byteM_in h]; unfold bt
      rw [List.getD_eq_getElem?_getD, List.getElem?_eq_getElem h]; rfl
    rw [e] at hK
    have := UInt8.toNat_lt s[i]
    rw [wrap_id (by omega) (by omega)]
    exact hK
  · rw [decide_eq_true (by omega), condW_true]
    rw [byteM_out h] at hK
    exact hK
theorem more_ref {s : Str} {i : Nat} {w : World} {K : Value → World → Prop} (hl : s.length ≤ 4611686018427387904) (hK : K (.bool (moreM s i)) w) : callF Tryz.prog 171 [str s, i64 (i : Int)] w K := by
  refine W171_ok ?_
  unfold W171
  refine one_ref hl ?_
  rw [bin_geq]
  refine GdW.look (decide (byteM s i < 192)) (fun _ J hJ => ?_) fun g => ?_
  · refine one_ref hl ?_
    rw [bin_lss]
    exact hJ
  · simp only [wsv, wsg, wsh, wsl, cond_true, cond_false, exists_eq_left', Option.some.injEq, Option.isSome_some, List.getElem?_toArray, List.getElem?_cons_zero, List.getElem?_cons_succ, List.length_cons, List.length_nil, List.set_cons_zero, List.set_cons_succ, List.getD_cons_zero, List.getD_cons_succ, Nat.zero_add, Nat.add_zero, Nat.reduceAdd, Nat.reduceLT, Nat.lt_add_one, Nat.zero_lt_succ, decide_true, decide_false, ne_eq, reduceCtorEq]
    exact hK
theorem add1 {i k : Nat} (h : i ≤ 4611686018427387904) (hk : k ≤ 10) : IntKind.i64.wrap ((i : Int) + (k : Nat)) = ((i + k : Nat) : Int) := by rw [wrap_id (by omega) (by omega)]; omega
theorem rune_ref {s : Str} {i : Nat} {w : World} {K : Value → World → Prop} (hl : s.length ≤ 4611686018427387904) (hi : i ≤ 4611686018427387904) (hK : K (i64 (runeM s i)) w) : callF Tryz.prog 127 [str s, i64 (i : Int)] w K := by
  have b0 := byteM_lo s i
  have b1 := byteM_lo s (i + 1)
  have b2 := byteM_lo s (i + 2)
  have b3 := byteM_lo s (i + 3)
  have a1 : IntKind.i64.wrap ((i : Int) + 1) = ((i + 1 : Nat) : Int) := add1 (k := 1) hi (by omega)
  have a2 : IntKind.i64.wrap ((i : Int) + 2) = ((i + 2 : Nat) : Int) := add1 (k := 2) hi (by omega)
  have a3 : IntKind.i64.wrap ((i : Int) + 3) = ((i + 3 : Nat) : Int) := add1 (k := 3) hi (by omega)
  refine W127_ok ?_
  unfold W127
  refine one_ref hl ?_
  unfold runeM at hK
  dsimp only at hK
  rw [bin_lss, condW_dec]
  refine ⟨fun c0 => by rw [if_pos c0] at hK; exact hK, fun c0 => ?_⟩
  rw [if_neg c0] at hK
  rw [bin_lss, condW_dec]
  refine ⟨fun c1 => by rw [if_pos c1] at hK; exact hK, fun c1 => ?_⟩
  rw [if_neg c1] at hK
  simp only [wsv, wsg, wsh, wsl, cond_true, cond_false, exists_eq_left', Option.some.injEq, Option.isSome_some, List.getElem?_toArray, List.getElem?_cons_zero, List.getElem?_cons_succ, List.length_cons, List.length_nil, List.set_cons_zero, List.set_cons_succ, List.getD_cons_zero, List.getD_cons_succ, Nat.zero_add, Nat.add_zero, Nat.reduceAdd, Nat.reduceLT, Nat.lt_add_one, Nat.zero_lt_succ, decide_true, decide_false, ne_eq, reduceCtorEq]
  intros
  refine GdW.look (moreM s (i + 1)) (fun _ J hJ => ?_) fun g => ?_
  · rw [a1]; exact more_ref hl hJ
  simp only [wsv, wsg, wsh, wsl, cond_true, cond_false, exists_eq_left', Option.some.injEq, Option.isSome_some, List.getElem?_toArray, List.getElem?_cons_zero, List.getElem?_cons_succ, List.length_cons, List.length_nil, List.set_cons_zero, List.set_cons_succ, List.getD_cons_zero, List.getD_cons_succ, Nat.zero_add, Nat.add_zero, Nat.reduceAdd, Nat.reduceLT, Nat.lt_add_one, Nat.zero_lt_succ, decide_true, decide_false, ne_eq, reduceCtorEq]
  rw [condW_b]
  refine ⟨fun c2 => ?_, fun c2 => ?_⟩
  · simp only [Bool.and_eq_true, decide_eq_true_eq] at c2
    rw [if_pos ⟨c2.1.1, c2.1.2, c2.2⟩] at hK
    exact hK
  have c2' : ¬ (194 ≤ byteM s i ∧ byteM s i < 224 ∧ moreM s (i + 1) = true) := fun h => by
    rw [decide_eq_true h.1, decide_eq_true h.2.1, h.2.2] at c2; cases c2
  rw [if_neg c2'] at hK
  have four : (¬ (224 ≤ byteM s i ∧ byteM s i < 240 ∧ moreM s (i + 1) = true ∧ moreM s (i + 2) = true ∧
    2048 ≤ (byteM s i - 224) * 4096 + (byteM s (i + 1) - 128) * 64 + byteM s (i + 2) - 128 ∧ ((byteM s i - 224) * 4096 + (byteM s (i + 1) - 128) * 64 + byteM s (i + 2) - 128 < 55296 ∨ 57343 < (byteM s i - 224) * 4096 + (byteM s (i + 1) - 128) * 64 + byteM s (i + 2) - 128))) → K (.int .i64 (if 240 ≤ byteM s i ∧ byteM s i < 245 ∧ moreM s (i + 1) = true ∧ moreM s (i + 2) = true ∧ moreM s (i + 3) = true ∧
    65536 ≤ (byteM s i - 240) * 262144 + (byteM s (i + 1) - 128) * 4096 + (byteM s (i + 2) - 128) * 64 + byteM s (i + 3) - 128 ∧ (byteM s i - 240) * 262144 + (byteM s (i + 1) - 128) * 4096 + (byteM s (i + 2) - 128) * 64 + byteM s (i + 3) - 128 ≤ 1114111 then 4 else 0 : Nat)) w := fun h => by
    rw [if_neg h] at hK; exact hK
  refine JoinW.cut (fun s' w' => s' = [] ∧ w' = w ∧ (¬ (224 ≤ byteM s i ∧ byteM s i < 240 ∧ moreM s (i + 1) = true ∧ moreM s (i + 2) = true ∧
    2048 ≤ (byteM s i - 224) * 4096 + (byteM s (i + 1) - 128) * 64 + byteM s (i + 2) - 128 ∧ ((byteM s i - 224) * 4096 + (byteM s (i + 1) - 128) * 64 + byteM s (i + 2) - 128 < 55296 ∨ 57343 < (byteM s i - 224) * 4096 + (byteM s (i + 1) - 128) * 64 + byteM s (i + 2) - 128)))) ?_ ?_
  · simp only [wsv, wsg, wsh, wsl, cond_true, cond_false, exists_eq_left', Option.some.injEq, Option.isSome_some, List.getElem?_toArray, List.getElem?_cons_zero, List.getElem?_cons_succ, List.length_cons, List.length_nil, List.set_cons_zero, List.set_cons_succ, List.getD_cons_zero, List.getD_cons_succ, Nat.zero_add, Nat.add_zero, Nat.reduceAdd, Nat.reduceLT, Nat.lt_add_one, Nat.zero_lt_succ, decide_true, decide_false, ne_eq, reduceCtorEq]
    intros
    refine GdW.look (moreM s (i + 1)) (fun _ J hJ => ?_) fun g => ?_
    · rw [a1]; exact more_ref hl hJ
    simp only [wsv, wsg, wsh, wsl, cond_true, cond_false, exists_eq_left', Option.some.injEq, Option.isSome_some, List.getElem?_toArray, List.getElem?_cons_zero, List.getElem?_cons_succ, List.length_cons, List.length_nil, List.set_cons_zero, List.set_cons_succ, List.getD_cons_zero, List.getD_cons_succ, Nat.zero_add, Nat.add_zero, Nat.reduceAdd, Nat.reduceLT, Nat.lt_add_one, Nat.zero_lt_succ, decide_true, decide_false, ne_eq, reduceCtorEq]
    refine GdW.look (moreM s (i + 2)) (fun _ J hJ => ?_) fun g => ?_
    · rw [a2]; exact more_ref hl hJ
    simp only [wsv, wsg, wsh, wsl, cond_true, cond_false, exists_eq_left', Option.some.injEq, Option.isSome_some, List.getElem?_toArray, List.getElem?_cons_zero, List.getElem?_cons_succ, List.length_cons, List.length_nil, List.set_cons_zero, List.set_cons_succ, List.getD_cons_zero, List.getD_cons_succ, Nat.zero_add, Nat.add_zero, Nat.reduceAdd, Nat.reduceLT, Nat.lt_add_one, Nat.zero_lt_succ, decide_true, decide_false, ne_eq, reduceCtorEq]
    rw [condW_b]
    refine ⟨fun c3 => ?_, fun c3 h => ?_⟩
    · simp only [Bool.and_eq_true, decide_eq_true_eq] at c3
      obtain ⟨⟨⟨d1, d2⟩, d3⟩, d4⟩ := c3
      rw [a1]
      refine one_ref hl ?_
      simp only [wsv, wsg, wsh, wsl, cond_true, cond_false, exists_eq_left', Option.some.injEq, Option.isSome_some, List.getElem?_toArray, List.getElem?_cons_zero, List.getElem?_cons_succ, List.length_cons, List.length_nil, List.set_cons_zero, List.set_cons_succ, List.getD_cons_zero, List.getD_cons_succ, Nat.zero_add, Nat.add_zero, Nat.reduceAdd, Nat.reduceLT, Nat.lt_add_one, Nat.zero_lt_succ, decide_true, decide_false, ne_eq, reduceCtorEq]
      rw [a2]
      refine one_ref hl ?_
      simp only [wsv, wsg, wsh, wsl, cond_true, cond_false, exists_eq_left', Option.some.injEq, Option.isSome_some, List.getElem?_toArray, List.getElem?_cons_zero, List.getElem?_cons_succ, List.length_cons, List.length_nil, List.set_cons_zero, List.set_cons_succ, List.getD_cons_zero, List.getD_cons_succ, Nat.zero_add, Nat.add_zero, Nat.reduceAdd, Nat.reduceLT, Nat.lt_add_one, Nat.zero_lt_succ, decide_true, decide_false, ne_eq, reduceCtorEq]
      have e1 : IntKind.i64.wrap (byteM s i - 224) = byteM s i - 224 := wrap_id (by omega) (by omega)
      have e2 : IntKind.i64.wrap ((byteM s i - 224) * 4096) = (byteM s i - 224) * 4096 := wrap_id (by omega) (by omega)
      have e3 : IntKind.i64.wrap (byteM s (i + 1) - 128) = byteM s (i + 1) - 128 := wrap_id (by omega) (by omega)
      have e4 : IntKind.i64.wrap ((byteM s (i + 1) - 128) * 64) = (byteM s (i + 1) - 128) * 64 := wrap_id (by omega) (by omega)
      have e5 : IntKind.i64.wrap ((byteM s i - 224) * 4096 + (byteM s (i + 1) - 128) * 64) = (byteM s i - 224) * 4096 + (byteM s (i + 1) - 128) * 64 := wrap_id (by omega) (by omega)
      have e6 : IntKind.i64.wrap ((byteM s i - 224) * 4096 + (byteM s (i + 1) - 128) * 64 + byteM s (i + 2)) = (byteM s i - 224) * 4096 + (byteM s (i + 1) - 128) * 64 + byteM s (i + 2) := wrap_id (by omega) (by omega)
      have e7 : IntKind.i64.wrap ((byteM s i - 224) * 4096 + (byteM s (i + 1) - 128) * 64 + byteM s (i + 2) - 128) = (byteM s i - 224) * 4096 + (byteM s (i + 1) - 128) * 64 + byteM s (i + 2) - 128 := wrap_id (by omega) (by omega)
      simp only [e1, e2, e3, e4, e5, e6, e7]
      intro _ _ _
      rw [condW_b]
      refine ⟨fun c4 => ?_, fun c4 h => ?_⟩
      · simp only [Bool.and_eq_true, Bool.or_eq_true, decide_eq_true_eq] at c4
        rw [if_pos ⟨d1, d2, d3, d4, c4.1, c4.2⟩] at hK
        exact hK
      · have : (decide (2048 ≤ (byteM s i - 224) * 4096 + (byteM s (i + 1) - 128) * 64 + byteM s (i + 2) - 128) && (decide ((byteM s i - 224) * 4096 + (byteM s (i + 1) - 128) * 64 + byteM s (i + 2) - 128 < 55296) || decide (57343 < (byteM s i - 224) * 4096 + (byteM s (i + 1) - 128) * 64 + byteM s (i + 2) - 128))) = true := by
          simp only [Bool.and_eq_true, Bool.or_eq_true, decide_eq_true_eq]
          exact h.2.2.2.2
        rw [c4] at this; cases this
    · rw [decide_eq_true h.1, decide_eq_true h.2.1, h.2.2.1, h.2.2.2.1] at c3; cases c3
  · rintro s' g w' ⟨rfl, rfl, hno⟩
    have hK := four hno
    intro g2
    refine GdW.look (moreM s (i + 1)) (fun _ J hJ => ?_) fun g => ?_
    · rw [a1]; exact more_ref hl hJ
    simp only [wsv, wsg, wsh, wsl, cond_true, cond_false, exists_eq_left', Option.some.injEq, Option.isSome_some, List.getElem?_toArray, List.getElem?_cons_zero, List.getElem?_cons_succ, List.length_cons, List.length_nil, List.set_cons_zero, List.set_cons_succ, List.getD_cons_zero, List.getD_cons_succ, Nat.zero_add, Nat.add_zero, Nat.reduceAdd, Nat.reduceLT, Nat.lt_add_one, Nat.zero_lt_succ, decide_true, decide_false, ne_eq, reduceCtorEq]
    refine GdW.look (moreM s (i + 2)) (fun _ J hJ => ?_) fun g => ?_
    · rw [a2]; exact more_ref hl hJ
    simp only [wsv, wsg, wsh, wsl, cond_true, cond_false, exists_eq_left', Option.some.injEq, Option.isSome_some, List.getElem?_toArray, List.getElem?_cons_zero, List.getElem?_cons_succ, List.length_cons, List.length_nil, List.set_cons_zero, List.set_cons_succ, List.getD_cons_zero, List.getD_cons_succ, Nat.zero_add, Nat.add_zero, Nat.reduceAdd, Nat.reduceLT, Nat.lt_add_one, Nat.zero_lt_succ, decide_true, decide_false, ne_eq, reduceCtorEq]
    refine GdW.look (moreM s (i + 3)) (fun _ J hJ => ?_) fun g => ?_
    · rw [a3]; exact more_ref hl hJ
    simp only [wsv, wsg, wsh, wsl, cond_true, cond_false, exists_eq_left', Option.some.injEq, Option.isSome_some, List.getElem?_toArray, List.getElem?_cons_zero, List.getElem?_cons_succ, List.length_cons, List.length_nil, List.set_cons_zero, List.set_cons_succ, List.getD_cons_zero, List.getD_cons_succ, Nat.zero_add, Nat.add_zero, Nat.reduceAdd, Nat.reduceLT, Nat.lt_add_one, Nat.zero_lt_succ, decide_true, decide_false, ne_eq, reduceCtorEq]
    rw [condW_b]
    refine ⟨fun c3 => ?_, fun c3 => ?_⟩
    · simp only [Bool.and_eq_true, decide_eq_true_eq] at c3
      obtain ⟨⟨⟨⟨d1, d2⟩, d3⟩, d4⟩, d5⟩ := c3
      rw [a1]
      refine one_ref hl ?_
      simp only [wsv, wsg, wsh, wsl, cond_true, cond_false, exists_eq_left', Option.some.injEq, Option.isSome_some, List.getElem?_toArray, List.getElem?_cons_zero, List.getElem?_cons_succ, List.length_cons, List.length_nil, List.set_cons_zero, List.set_cons_succ, List.getD_cons_zero, List.getD_cons_succ, Nat.zero_add, Nat.add_zero, Nat.reduceAdd, Nat.reduceLT, Nat.lt_add_one, Nat.zero_lt_succ, decide_true, decide_false, ne_eq, reduceCtorEq]
      rw [a2]
      refine one_ref hl ?_
      simp only [wsv, wsg, wsh, wsl, cond_true, cond_false, exists_eq_left', Option.some.injEq, Option.isSome_some, List.getElem?_toArray, List.getElem?_cons_zero, List.getElem?_cons_succ, List.length_cons, List.length_nil, List.set_cons_zero, List.set_cons_succ, List.getD_cons_zero, List.getD_cons_succ, Nat.zero_add, Nat.add_zero, Nat.reduceAdd, Nat.reduceLT, Nat.lt_add_one, Nat.zero_lt_succ, decide_true, decide_false, ne_eq, reduceCtorEq]
      rw [a3]
      refine one_ref hl ?_
      simp only [wsv, wsg, wsh, wsl, cond_true, cond_false, exists_eq_left', Option.some.injEq, Option.isSome_some, List.getElem?_toArray, List.getElem?_cons_zero, List.getElem?_cons_succ, List.length_cons, List.length_nil, List.set_cons_zero, List.set_cons_succ, List.getD_cons_zero, List.getD_cons_succ, Nat.zero_add, Nat.add_zero, Nat.reduceAdd, Nat.reduceLT, Nat.lt_add_one, Nat.zero_lt_succ, decide_true, decide_false, ne_eq, reduceCtorEq]
      have e1 : IntKind.i64.wrap (byteM s i - 240) = byteM s i - 240 := wrap_id (by omega) (by omega)
      have e2 : IntKind.i64.wrap ((byteM s i - 240) * 262144) = (byteM s i - 240) * 262144 := wrap_id (by omega) (by omega)
      have e3 : IntKind.i64.wrap (byteM s (i + 1) - 128) = byteM s (i + 1) - 128 := wrap_id (by omega) (by omega)
      have e4 : IntKind.i64.wrap ((byteM s (i + 1) - 128) * 4096) = (byteM s (i + 1) - 128) * 4096 := wrap_id (by omega) (by omega)
      have e5 : IntKind.i64.wrap ((byteM s i - 240) * 262144 + (byteM s (i + 1) - 128) * 4096) = (byteM s i - 240) * 262144 + (byteM s (i + 1) - 128) * 4096 := wrap_id (by omega) (by omega)
      have e6 : IntKind.i64.wrap (byteM s (i + 2) - 128) = byteM s (i + 2) - 128 := wrap_id (by omega) (by omega)
      have e7 : IntKind.i64.wrap ((byteM s (i + 2) - 128) * 64) = (byteM s (i + 2) - 128) * 64 := wrap_id (by omega) (by omega)
      have e8 : IntKind.i64.wrap ((byteM s i - 240) * 262144 + (byteM s (i + 1) - 128) * 4096 + (byteM s (i + 2) - 128) * 64) = (byteM s i - 240) * 262144 + (byteM s (i + 1) - 128) * 4096 + (byteM s (i + 2) - 128) * 64 := wrap_id (by omega) (by omega)
      have e9 : IntKind.i64.wrap ((byteM s i - 240) * 262144 + (byteM s (i + 1) - 128) * 4096 + (byteM s (i + 2) - 128) * 64 + byteM s (i + 3)) = (byteM s i - 240) * 262144 + (byteM s (i + 1) - 128) * 4096 + (byteM s (i + 2) - 128) * 64 + byteM s (i + 3) := wrap_id (by omega) (by omega)
      have e10 : IntKind.i64.wrap ((byteM s i - 240) * 262144 + (byteM s (i + 1) - 128) * 4096 + (byteM s (i + 2) - 128) * 64 + byteM s (i + 3) - 128) = (byteM s i - 240) * 262144 + (byteM s (i + 1) - 128) * 4096 + (byteM s (i + 2) - 128) * 64 + byteM s (i + 3) - 128 := wrap_id (by omega) (by omega)
      simp only [e1, e2, e3, e4, e5, e6, e7, e8, e9, e10]
      intro _
      rw [condW_b]
      refine ⟨fun c4 => ?_, fun c4 => ?_⟩
      · simp only [Bool.and_eq_true, decide_eq_true_eq] at c4
        rw [if_pos ⟨d1, d2, d3, d4, d5, c4.1, c4.2⟩] at hK
        exact hK
      · rw [if_neg (fun h => by rw [decide_eq_true h.2.2.2.2.2.1, decide_eq_true h.2.2.2.2.2.2] at c4; cases c4)] at hK
        exact hK
    · rw [if_neg (fun h => by rw [decide_eq_true h.1, decide_eq_true h.2.1, h.2.2.1, h.2.2.2.1, h.2.2.2.2.1] at c3; cases c3)] at hK
      exact hK
/-- a text's runes -/
def pieceGo (s : Str) : Nat → Nat → List Str
  | 0, _ => []
  | n + 1, i => if i < s.length then (s.drop i).take (stepM s i) :: pieceGo s n (i + stepM s i) else []
theorem piece_end {s : Str} {n i : Nat} (h : s.length ≤ i) : pieceGo s n i = [] := by
  cases n with
  | zero => rfl
  | succ n => rw [pieceGo, if_neg (by omega)]
theorem max_step (s : Str) (i : Nat) : (if ((runeM s i : Nat) : Int) < 1 then (1 : Int) else ((runeM s i : Nat) : Int)) = ((stepM s i : Nat) : Int) := by
  unfold stepM
  split <;> omega
theorem runes_ref {s : Str} {w : World} {K : Value → World → Prop} (hl : s.length ≤ 100000) (hK : ∀ v w', Ext w w' → SlAt w' ST v (pieceGo s s.length 0).length ((pieceGo s s.length 0).map str) → K v w') : callF Tryz.prog 66 [str s] w K := by
  refine W66_ok ?_
  unfold W66
  refine ⟨fun s' w' => ∃ (i n : Nat) (v : Value) (l : List Str), i ≤ s.length ∧ s.length ≤ i + n ∧ s' = [v, i64 (i : Int)] ∧ l.length ≤ i ∧ l ++ pieceGo s n i = pieceGo s s.length 0 ∧ Ext w w' ∧ Own w' w.heap.size ST 1 v l.length (l.map str),
    fun s' _ => match s' with | [_, .int _ i] => s.length - i.toNat | _ => 0, ⟨0, s.length, _, [], Nat.zero_le _, by omega, rfl, Nat.le_refl _, rfl, Chg.refl _ _, ⟨by simp, .inl ⟨rfl, by simp⟩⟩⟩, ?_⟩
  rintro s' g w1 ⟨i, n, v, l, hi, hn, rfl, hll, he, hx, hO⟩
  simp only [List.getD_cons_zero, List.getD_cons_succ]
  rw [lens_str, bin_lss]
  rcases Nat.lt_or_ge i s.length with hlt | hge
  · rw [decide_eq_true (by omega), condW_true]
    refine rune_ref (by omega) (by omega) ?_
    rw [max_int, max_step]
    have hf := step_fits hlt
    have hp := step_pos s i
    have e1 : IntKind.i64.wrap ((i : Int) + (stepM s i : Nat)) = ((i + stepM s i : Nat) : Int) := by rw [wrap_id (by omega) (by omega)]; omega
    simp only [bin_add, e1]
    rw [sls_str, bd_some]
    refine ⟨by omega, by omega, ?_⟩
    rw [bd_some]
    refine ⟨by omega, by simp only [Int.toNat_natCast]; omega, ?_⟩
    simp only [Int.toNat_natCast]
    have e2 : (s.take (i + stepM s i)).drop i = (s.drop i).take (stepM s i) := by rw [List.drop_take]; congr 1; omega
    rw [e2]
    refine row_s fun t w2 ht hx2 => ?_
    refine append_own2 elem_s (hO.ext hx2) ht (m := 1) rfl (fun u hu => by simp only [List.mem_singleton] at hu; subst hu; rfl) (by omega) (by omega) (hx.trans hx2).size fun v' w3 h' hc _ => ?_
    cases n with
    | zero => omega
    | succ n =>
      rw [pieceGo, if_pos hlt] at he
      refine ⟨⟨i + stepM s i, n, v', l ++ [(s.drop i).take (stepM s i)], hf, by omega, rfl, by simp; omega, by simpa using he, (hx.trans hx2).then hc fun k hk e => ?_, by simpa using h'⟩, ?_⟩
      · have := (own_ge (hO.ext hx2) e).1; omega
      · show s.length - (((i + stepM s i : Nat) : Int)).toNat < s.length - ((i : Int)).toNat
        omega
  · rw [decide_eq_false (by omega), condW_false]
    rw [piece_end hge, List.append_nil] at he
    rw [← he] at hK
    exact hK _ w1 hx hO.sl
end
end Go.Proofs.YtcnjpcadejcenaaGreatDoor

namespace Go.Proofs.YtcnjpcadejcenaaGreatDoor
open Go Go.Eng
set_option maxRecDepth 100000
section
variable [HX]
theorem row_le (s : Str) (n : Nat) : rowM s n ≤ n + 1 := by
  induction n with
  | zero => exact Nat.le_refl _
  | succ n ih => unfold rowM; split <;> omega
theorem clamp_lt {s : Str} {a : Int} {i : Nat} (hi : i ≤ clampM s a) : ((i : Int) < (if (s.length : Int) < a then (s.length : Int) else a)) ↔ i < clampM s a := by
  unfold clampM at *
  split <;> omega
theorem colGo_le (t : Str) (b : Nat) : ∀ n i, colGo t b n i ≤ t.length - i := by
  intro n
  induction n with
  | zero => intro i; exact Nat.zero_le _
  | succ n ih =>
    intro i
    unfold colGo
    have := ih (i + stepM t i)
    have hp := step_pos t i
    split
    · split <;> omega
    · exact Nat.zero_le _
theorem place_ref {s : Str} {a : Int} {w : World} {K : Value → World → Prop} (hl : s.length ≤ 100000) (hK : ∀ w', Ext w w' → K (.tuple #[i64 ((placeM s a).1 : Nat), i64 ((placeM s a).2 : Nat), i64 ((fromM s (clampM s a) : Nat) : Int)]) w') :
    callF Tryz.prog 24 [str s, i64 a] w K := by
  refine W24_ok ?_
  unfold W24
  have hcl := clamp_le s a
  refine JoinW.cut (fun s' w' => s' = [i64 (if (s.length : Int) < a then (s.length : Int) else a)] ∧ w' = w) ?_ ?_
  · rw [lens_str, bin_gtr, condW_dec]
    refine ⟨fun h => ?_, fun h => ?_⟩
    · rw [lens_str, if_pos h]; exact ⟨rfl, rfl⟩
    · rw [if_neg h]; exact ⟨rfl, rfl⟩
  rintro s' g w' ⟨rfl, rfl⟩
  refine ⟨fun s' w2 => ∃ i : Nat, i ≤ clampM s a ∧ s' = [i64 ((rowM s i : Nat) : Int), i64 ((fromM s i : Nat) : Int), i64 (i : Int)] ∧ w2 = w', fun s' _ => match s' with | [_, _, .int _ i] => clampM s a - i.toNat | _ => 0, ⟨0, Nat.zero_le _, rfl, rfl⟩, ?_⟩
  rintro s' g w2 ⟨i, hi, rfl, rfl⟩
  simp only [List.getD_cons_zero, List.getD_cons_succ]
  rw [bin_lss]
  rcases Nat.lt_or_ge i (clampM s a) with hlt | hge
  · rw [decide_eq_true ((clamp_lt hi).2 hlt), condW_true]
    have hls : i < s.length := by omega
    refine JoinW.cut (fun s' w3 => s' = [i64 ((rowM s (i + 1) : Nat) : Int), i64 ((fromM s (i + 1) : Nat) : Int)] ∧ w3 = w2) ?_ ?_
    · rw [ixs_str]
      refine ⟨by omega, s[i], by simp [hls], ?_⟩
      have e : byteM s i = (s[i].toNat : Int) := by
        rw [byteM_in hls]; unfold bt
        rw [List.getD_eq_getElem?_getD, List.getElem?_eq_getElem hls]; rfl
      rw [bin_eql, condW_dec]
      have hr := row_le s i
      refine ⟨fun h => ?_, fun h => ?_⟩
      · have hb : byteM s i = 10 := by rw [e]; exact h
        rw [bin_add, bin_add, up1 (by omega), up1 (by omega), (order_next hb).1, (order_next hb).2]
        exact ⟨rfl, rfl⟩
      · have hb : byteM s i ≠ 10 := by rw [e]; exact h
        rw [(order_same hb).1, (order_same hb).2]
        exact ⟨rfl, rfl⟩
    · rintro s' g w3 ⟨rfl, rfl⟩
      simp only [List.getD_cons_zero, List.getD_cons_succ]
      rw [bin_add, up1 (by omega)]
      refine ⟨⟨i + 1, hlt, by trivial, by trivial⟩, ?_⟩
      show clampM s a - (((i + 1 : Nat) : Int)).toNat < clampM s a - ((i : Int)).toNat
      omega
  · obtain rfl : i = clampM s a := by omega
    rw [decide_eq_false (fun h => by have := (clamp_lt (Nat.le_refl _)).1 h; omega), condW_false]
    have hfl := from_le s (clampM s a)
    unfold placeM at hK
    generalize hc : clampM s a = c at *
    generalize hf : fromM s c = f at *
    rw [sls_str, bd_none, bd_some]
    refine ⟨by omega, by omega, ?_⟩
    simp only [Int.toNat_natCast]
    rw [List.take_length]
    generalize ht : s.drop f = t at *
    have htl : t.length = s.length - f := by rw [← ht, List.length_drop]
    refine runes_ref (by omega) fun v w3 hx hs => ?_
    rw [lenl_at hs]
    refine ⟨fun s' w4 => ∃ (k n p q : Nat), k ≤ (pieceGo t t.length 0).length ∧ t.length ≤ p + n ∧ p ≤ t.length ∧ (pieceGo t t.length 0).drop k = pieceGo t n p ∧ q + colGo t (c - f) n p = 1 + colM t (c - f) ∧ s' = [i64 (q : Int), i64 ((f + p : Nat) : Int), i64 (k : Int)] ∧ w4 = w3,
      fun s' _ => match s' with | [_, _, .int _ i] => (pieceGo t t.length 0).length - i.toNat | _ => 0, ⟨0, t.length, 0, 1, Nat.zero_le _, by omega, Nat.zero_le _, by rw [List.drop_zero], rfl, rfl, rfl⟩, ?_⟩
    rintro s' g w4 ⟨k, n, p, q, hk, hn, hp, hd, hq, rfl, rfl⟩
    simp only [List.getD_cons_zero, List.getD_cons_succ]
    rw [bin_lss]
    rcases Nat.lt_or_ge k (pieceGo t t.length 0).length with hlt | hge
    · rw [decide_eq_true (by omega), condW_true]
      have hpl : p < t.length := by
        apply Nat.lt_of_not_le; intro hle
        rw [piece_end hle] at hd
        have := List.drop_eq_nil_iff.1 hd
        omega
      cases n with
      | zero => omega
      | succ n =>
        rw [pieceGo, if_pos hpl, List.drop_eq_getElem_cons hlt, List.cons.injEq] at hd
        obtain ⟨hd1, hd2⟩ := hd
        rw [colGo, if_pos hpl] at hq
        have hstep := step_fits hpl
        have hpos := step_pos t p
        have hq2 := colGo_le t (c - f) t.length 0
        refine JoinW.cut (fun s' w5 => s' = [i64 ((q + (if p < c - f then 1 else 0) : Nat) : Int)] ∧ w5 = w4) ?_ ?_
        · have hcond : (((f + p : Nat) : Int) < (if (s.length : Int) < a then (s.length : Int) else a)) ↔ p < c - f := by
            unfold clampM at hc
            split <;> omega
          rw [bin_lss, condW_dec]
          refine ⟨fun h => ?_, fun h => ?_⟩
          · have h' := hcond.1 h
            rw [bin_add, up1 (by unfold colM at hq; omega), if_pos h']
            exact ⟨rfl, rfl⟩
          · rw [if_neg fun h' => h (hcond.2 h')]
            exact ⟨rfl, rfl⟩
        rintro s' g w5 ⟨rfl, rfl⟩
        simp only [List.getD_cons_zero, List.getD_cons_succ]
        refine text_ld hs (x := (t.drop p).take (stepM t p)) (by rw [List.getElem?_eq_getElem hlt, hd1]) ?_
        rw [lens_str, List.length_take, List.length_drop]
        rw [bin_add, bin_add]
        have e1 : IntKind.i64.wrap (((f + p : Nat) : Int) + ((min (stepM t p) (t.length - p) : Nat) : Int)) = ((f + (p + stepM t p) : Nat) : Int) := by rw [wrap_id (by omega) (by omega)]; omega
        have hkl : (pieceGo t t.length 0).length ≤ 9000000000000000000 := by
          obtain ⟨pp, cc, _, h1⟩ := hs.shape
          have : ∀ n i, (pieceGo t n i).length ≤ n := by
            intro n
            induction n with
            | zero => intro i; exact Nat.le_refl _
            | succ n ih => intro i; unfold pieceGo; split; have := ih (i + stepM t i); simp only [List.length_cons]; omega; simp
          have := this t.length 0
          omega
        rw [e1, up1 (by omega)]
        refine ⟨⟨k + 1, n, p + stepM t p, q + (if p < c - f then 1 else 0), hlt, by omega, hstep, hd2, by omega, by trivial, by trivial⟩, ?_⟩
        show (pieceGo t t.length 0).length - (((k + 1 : Nat) : Int)).toNat < (pieceGo t t.length 0).length - ((k : Int)).toNat
        omega
    · rw [decide_eq_false (by omega), condW_false]
      have hpe : t.length ≤ p := by
        apply Nat.le_of_not_lt; intro hlt
        cases n with
        | zero => omega
        | succ n =>
          rw [pieceGo, if_pos hlt, List.drop_of_length_le hge] at hd
          cases hd
      have : colGo t (c - f) n p = 0 := by
        cases n with
        | zero => rfl
        | succ n => rw [colGo, if_neg (by omega)]
      rw [this, Nat.add_zero] at hq
      rw [hq]
      exact hK w4 hx
theorem tw_take {p : UInt8 → Bool} {l : Str} {k : Nat} (h1 : ∀ c ∈ l.take k, p c = true) (h2 : ∀ c r, l.drop k = c :: r → p c = false) : l.takeWhile p = l.take k := by
  have e : l = l.take k ++ l.drop k := (List.take_append_drop _ _).symm
  conv => lhs; rw [e]
  rw [List.takeWhile_append_of_pos h1]
  cases hd : l.drop k with
  | nil => rw [List.takeWhile_nil, List.append_nil]
  | cons c r => rw [List.takeWhile_cons, if_neg (by rw [h2 c r hd]; simp), List.append_nil]
theorem line_ref {s : Str} {a : Int} {w : World} {K : Value → World → Prop} (hl : s.length ≤ 100000) (hK : ∀ w', Ext w w' → K (str (lineM s a)) w') :
    callF Tryz.prog 29 [str s, i64 a] w K := by
  refine W29_ok ?_
  unfold W29
  refine place_ref hl fun w1 hx1 => ?_
  simp only [wsv, wsg, wsh, wsl, cond_true, cond_false, exists_eq_left', Option.some.injEq, Option.isSome_some, List.getElem?_toArray, List.getElem?_cons_zero, List.getElem?_cons_succ, List.length_cons, List.length_nil, List.set_cons_zero, List.set_cons_succ, List.getD_cons_zero, List.getD_cons_succ, Nat.zero_add, Nat.add_zero, Nat.reduceAdd, Nat.reduceLT, Nat.lt_add_one, Nat.zero_lt_succ, decide_true, decide_false, ne_eq, reduceCtorEq]
  have hcl := clamp_le s a
  have hfl := from_le s (clampM s a)
  unfold lineM at hK
  generalize hf : fromM s (clampM s a) = f at *
  refine ⟨fun s' w2 => ∃ e : Nat, f ≤ e ∧ e ≤ s.length ∧ s' = [i64 (e : Int)] ∧ w2 = w1 ∧ ∀ c ∈ (s.drop f).take (e - f), notNl c = true, fun s' _ => match s' with | [.int _ i] => s.length - i.toNat | _ => 0, ⟨f, Nat.le_refl _, by omega, rfl, rfl, by simp⟩, ?_⟩
  rintro s' g w2 ⟨e, h1, h2, rfl, rfl, hall⟩
  simp only [List.getD_cons_zero, List.getD_cons_succ]
  rw [bin_lss]
  have stop : (∀ c r, (s.drop f).drop (e - f) = c :: r → notNl c = false) → slsW (str s) (some (i64 (f : Int))) (some (i64 (e : Int))) fun t => K t w2 := fun hst => by
    rw [sls_str, bd_some]
    refine ⟨by omega, by omega, ?_⟩
    rw [bd_some]
    refine ⟨by omega, by simp only [Int.toNat_natCast]; omega, ?_⟩
    simp only [Int.toNat_natCast]
    have := hK w2 hx1
    unfold lineAt at this
    rw [tw_take hall hst, List.take_drop, Nat.add_sub_cancel' h1] at this
    exact this
  rcases Nat.lt_or_ge e s.length with hlt | hge
  · have eb : ∀ r, s.drop e = s[e] :: r → True := fun _ _ => trivial
    have hdrop : (s.drop f).drop (e - f) = s[e] :: s.drop (e + 1) := by rw [List.drop_drop, Nat.add_sub_cancel' h1, List.drop_eq_getElem_cons hlt]
    rw [decide_eq_true (by omega)]
    refine GdW.look (notNl s[e]) (fun _ J hJ => ?_) fun g => ?_
    · rw [ixs_str]
      refine ⟨by omega, s[e], by simp [hlt], ?_⟩
      rw [bin_neq]
      have : decide (((s[e].toNat : Nat) : Int) ≠ 10) = notNl s[e] := by
        unfold notNl
        by_cases h10 : s[e] = 10
        · rw [h10]; rfl
        · rw [decide_eq_true, decide_eq_false h10]; rfl
          intro h; exact h10 (UInt8.toNat_inj.1 (by show s[e].toNat = 10; omega))
      rw [this]
      exact hJ
    simp only [wsv, wsg, wsh, wsl, cond_true, cond_false, exists_eq_left', Option.some.injEq, Option.isSome_some, List.getElem?_toArray, List.getElem?_cons_zero, List.getElem?_cons_succ, List.length_cons, List.length_nil, List.set_cons_zero, List.set_cons_succ, List.getD_cons_zero, List.getD_cons_succ, Nat.zero_add, Nat.add_zero, Nat.reduceAdd, Nat.reduceLT, Nat.lt_add_one, Nat.zero_lt_succ, decide_true, decide_false, ne_eq, reduceCtorEq]
    rw [condW_b]
    refine ⟨fun hn => ?_, fun hn => ?_⟩
    · rw [up1 (by omega)]
      refine ⟨⟨e + 1, by omega, hlt, by trivial, fun c hc => ?_⟩, ?_⟩
      · rw [show e + 1 - f = (e - f) + 1 by omega, List.take_add_one] at hc
        rcases List.mem_append.1 hc with hc | hc
        · exact hall c hc
        · have : (s.drop f)[e - f]? = some s[e] := by rw [List.getElem?_drop, Nat.add_sub_cancel' h1, List.getElem?_eq_getElem hlt]
          rw [this] at hc
          simp only [Option.toList_some, List.mem_singleton] at hc
          rw [hc]; exact hn
      · show s.length - (((e + 1 : Nat) : Int)).toNat < s.length - ((e : Int)).toNat
        omega
    · refine stop fun c r h => ?_
      rw [hdrop, List.cons.injEq] at h
      rw [← h.1]; exact hn
  · rw [decide_eq_false (by omega)]
    simp only [wsv, wsg, wsh, wsl, cond_true, cond_false, exists_eq_left', Option.some.injEq, Option.isSome_some, List.getElem?_toArray, List.getElem?_cons_zero, List.getElem?_cons_succ, List.length_cons, List.length_nil, List.set_cons_zero, List.set_cons_succ, List.getD_cons_zero, List.getD_cons_succ, Nat.zero_add, Nat.add_zero, Nat.reduceAdd, Nat.reduceLT, Nat.lt_add_one, Nat.zero_lt_succ, decide_true, decide_false, ne_eq, reduceCtorEq]
    intro g
    refine stop fun c r h => ?_
    rw [List.drop_of_length_le (by rw [List.length_drop]; omega)] at h
    cases h
end
end Go.Proofs.YtcnjpcadejcenaaGreatDoor

namespace Go.Proofs.YtcnjpcadejcenaaGreatDoor
open Go Go.Eng Go.RowKit
set_option maxRecDepth 100000
section
variable [HX]
theorem lastIdx_from (t : Str) : ∀ n, n ≤ t.length → Lib.lastIdx (ofL t) 10 n + 1 = (fromM t n : Nat) := by
  intro n
  induction n with
  | zero => intro _; rfl
  | succ n ih =>
    intro h
    have e : (((ofL t).data[n]!).toNat : Int) = byteM t n := by
      rw [byteM_in (by omega), ← get_bt]; rfl
    rw [Lib.lastIdx, fromM, e]
    split
    · rfl
    · exact ih (by omega)
theorem ahead_p {s : Str} {a : Int} {w : World} {K : Value → World → Prop} (hK : K (str (s.take (clampM s a))) w) : callF Tryz.prog 69 [str s, i64 a] w K := by
  refine W69_ok ?_
  unfold W69
  rw [max_int, lens_str, min_int, sls_str, bd_some]
  have hc : (if (s.length : Int) < (if a < 0 then 0 else a) then (s.length : Int) else (if a < 0 then 0 else a)) = (clampM s a : Nat) := by
    unfold clampM
    split <;> split <;> omega
  rw [hc]
  have := clamp_le s a
  refine ⟨by omega, by omega, ?_⟩
  rw [bd_none, List.drop_zero, Int.toNat_natCast]
  exact hK
theorem last_p {t : Str} {w : World} {K : Value → World → Prop} (hl : t.length ≤ 1000000) (hK : ∀ v, v + 1 = ((fromM t t.length : Nat) : Int) → K (i64 v) w) : callF Tryz.prog 70 [str t, .int .u8 10] w K := by
  refine of_calls (args := #[str t, .int .u8 10]) Tryz.call70 ((Tryz.strings_LastIndexByte (ofL t) 10 (by rw [ofL_size]; omega) w).mono ?_)
  rintro e w' ⟨rfl, rfl⟩
  refine ⟨_, rfl, hK _ ?_⟩
  have := lastIdx_from t t.length (Nat.le_refl _)
  unfold Lib.lastIndexByte
  rw [ofL_size]
  exact this
theorem count_p {t : Str} {w : World} {K : Value → World → Prop} (hK : K (i64 ((t.count 10 : Nat) : Int)) w) : callF Tryz.prog 71 [str t, str [10]] w K := by
  refine of_calls (args := #[str t, str [10]]) Tryz.call71 ((Tryz.strings_Count_one (ofL t) 10 w).mono ?_)
  rintro e w' ⟨rfl, rfl⟩
  rw [ofL_data]
  exact ⟨_, rfl, hK⟩
theorem range_str {l : Str} {w : World} {K : Value → World → Prop} (hK : K (.pointer (some ⟨w.heap.size, 0, none⟩)) (w.alloc (.stringIter (ofL l) 0))) : semE Tryz.prog (Instr.range 9 (str l)) w K := by
  have hT : Tryz.prog.underlying 9 = some .string := by kernel_rfl
  have hr : (Instr.range 9 (str l)).run Tryz.prog w = .ok (.pointer (some ⟨w.heap.size, 0, none⟩)) (w.alloc (.stringIter (ofL l) 0)) := by
    simp [Instr.range, run_bind, run_underlying' hT, run_pure, newObj, Sem.run]
  unfold semE
  rw [hr]
  exact hK
theorem setObj_chg' {w : World} {r : Nat} {o : Obj} (h : r < w.heap.size) : Chg (· = r) w { w with heap := w.heap.setIfInBounds r o } :=
  ⟨rfl, rfl, rfl, by simp, fun k _ hk => by
    show (w.heap.setIfInBounds r o)[k]? = _
    rw [Array.getElem?_setIfInBounds_ne (by omega)]⟩
theorem next_str {r pos : Nat} {l : Str} {T : TypeId} {w : World} {K : Value → World → Prop} (hw : w.heap[r]? = some (.stringIter (ofL l) pos))
    (h0 : l.length ≤ pos → K (.tuple #[.bool false]) w)
    (h1 : pos < l.length → ∀ w', w'.heap[r]? = some (.stringIter (ofL l) (pos + (Utf8.decode (ofL l) pos).2)) → Chg (· = r) w w' → w'.heap.size = w.heap.size → K (.tuple #[.bool true, i64 pos, .int .i32 (Utf8.decode (ofL l) pos).1]) w') :
    semE Tryz.prog (Instr.next (.pointer (some ⟨r, 0, none⟩)) true T) w K := by
  have hg : (getObj r).run Tryz.prog w = .ok (.stringIter (ofL l) pos) w := by simp [getObj, Sem.run, hw]
  have hlt : r < w.heap.size := (Array.getElem?_eq_some_iff.1 hw).1
  unfold semE
  simp only [Instr.next, run_bind, hg, ofL_size]
  by_cases hp : pos < l.length
  · have hset : (setObj r (.stringIter (ofL l) (pos + (Utf8.decode (ofL l) pos).2))).run Tryz.prog w = .ok () { w with heap := w.heap.setIfInBounds r (.stringIter (ofL l) (pos + (Utf8.decode (ofL l) pos).2)) } := by simp [setObj, Sem.run, hw]
    rw [if_pos hp]
    simp only [run_bind, hset, run_pure]
    exact h1 hp _ (by simp [hlt]) (setObj_chg' hlt) (by simp)
  · rw [if_neg hp]
    simp only [run_pure]
    exact h0 (by omega)
theorem place_p {s : Str} {a : Int} {w : World} {K : Value → World → Prop} (hl : s.length ≤ 100000) (hK : ∀ w', Ext w w' → K (.tuple #[i64 ((placeM s a).1 : Nat), i64 ((placeM s a).2 : Nat)]) w') :
    callF Tryz.prog 27 [str s, i64 a] w K := by
  refine W27_ok ?_
  unfold W27
  have hcl := clamp_le s a
  have hfl := from_le s (clampM s a)
  have hrow := row_count s hcl
  refine ahead_p ?_
  refine last_p (by rw [List.length_take]; omega) fun v hv => ?_
  rw [List.length_take, Nat.min_eq_left hcl, from_take s (Nat.le_refl _) hcl] at hv
  unfold placeM at hK
  rw [hrow] at hK
  generalize hc : clampM s a = c at *
  generalize hf : fromM s c = f at *
  rw [bin_add, hv, wrap_id (by omega) (by omega), sls_str, bd_none, bd_some]
  refine ⟨by omega, by omega, ?_⟩
  rw [Int.toNat_natCast, List.take_length]
  generalize ht : s.drop f = t at *
  have htl : t.length = s.length - f := by rw [← ht, List.length_drop]
  refine range_str ?_
  refine ⟨fun s' w4 => ∃ (n p q : Nat), t.length ≤ p + n ∧ p ≤ t.length ∧ q + colGo t (c - f) n p = 1 + colM t (c - f) ∧ s' = [i64 (q : Int)] ∧ Ext w w4 ∧ w4.heap[w.heap.size]? = some (.stringIter (ofL t) p),
    fun _ w4 => match w4.heap[w.heap.size]? with | some (.stringIter _ p) => t.length - p | _ => 0, ⟨t.length, 0, 1, by omega, Nat.zero_le _, rfl, rfl, Chg.alloc (Chg.refl _ _) _, heap_anew _ _ _ rfl⟩, ?_⟩
  rintro s' g w4 ⟨n, p, q, hn, hp, hq, rfl, hx, hit⟩
  simp only [List.getD_cons_zero]
  have hq2 := colGo_le t (c - f) t.length 0
  refine next_str hit (fun hpe => ?_) (fun hpl w5 hit5 hc5 hz5 => ?_)
  · rw [ext_tuple]
    refine ⟨.bool false, rfl, ?_⟩
    rw [condW_false]
    refine count_p ?_
    have : colGo t (c - f) n p = 0 := by
      cases n with
      | zero => rfl
      | succ n => rw [colGo, if_neg (by omega)]
    rw [this, Nat.add_zero] at hq
    have hcnt : (s.take c).count 10 ≤ 100000 := Nat.le_trans List.count_le_length (by rw [List.length_take]; omega)
    rw [bin_add, wrap_id (by omega) (by omega), hq]
    exact hK w4 hx
  · cases n with
    | zero => omega
    | succ n =>
      rw [colGo, if_pos hpl] at hq
      have hstep := step_fits hpl
      have hpos := step_pos t p
      rw [dec_step hpl] at hit5
      have hx5 : Ext w w5 := hx.then hc5 fun k hk e => by omega
      have hmu : ∀ (q' : Nat), (match w5.heap[w.heap.size]? with | some (.stringIter _ p) => t.length - p | _ => 0) < (match w4.heap[w.heap.size]? with | some (.stringIter _ p) => t.length - p | _ => 0) := fun _ => by
        rw [hit5, hit]
        show t.length - (p + stepM t p) < t.length - p
        omega
      rw [ext_tuple]
      refine ⟨.bool true, rfl, ?_⟩
      rw [condW_true, ext_tuple]
      refine ⟨i64 p, rfl, ?_⟩
      rw [bin_add, wrap_id (by omega) (by omega), lens_str, List.length_take, Nat.min_eq_left (by omega), bin_lss, condW_dec]
      refine ⟨fun h => ?_, fun h => ?_⟩
      · rw [if_pos (by omega)] at hq
        rw [bin_add, up1 (by unfold colM at hq; omega)]
        exact ⟨⟨n, p + stepM t p, q + 1, by omega, hstep, by omega, rfl, hx5, hit5⟩, hmu 0⟩
      · rw [if_neg (by omega)] at hq
        exact ⟨⟨n, p + stepM t p, q, by omega, hstep, by omega, rfl, hx5, hit5⟩, hmu 0⟩
theorem idx_tw (t : Str) : (Lib.indexByte t 10 = -1 ∧ t.takeWhile notNl = t) ∨ (∃ i : Nat, Lib.indexByte t 10 = i ∧ i < t.length ∧ t.takeWhile notNl = t.take i) := by
  induction t with
  | nil => exact .inl ⟨rfl, rfl⟩
  | cons c t ih =>
    unfold Lib.indexByte
    by_cases h : c = 10
    · subst h
      right
      exact ⟨0, by rfl, by simp, by rw [List.takeWhile_cons, if_neg (by decide)]; rfl⟩
    · have hb : (c == 10) = false := by simp [h]
      have hn : notNl c = true := by unfold notNl; simp [h]
      simp only [hb, Bool.false_eq_true, if_false]
      rw [List.takeWhile_cons, if_pos hn]
      rcases ih with ⟨h1, h2⟩ | ⟨i, h1, h2, h3⟩
      · left
        rw [h1, h2]; exact ⟨by rfl, rfl⟩
      · right
        refine ⟨i + 1, ?_, by simp; omega, by rw [h3]; rfl⟩
        rw [h1, if_neg (by
          intro e
          have : ((i : Nat) : Int) = -1 := by simpa using e
          omega)]
        omega
theorem idx_p {t : Str} {w : World} {K : Value → World → Prop} (hl : t.length ≤ 1000000) (hK : K (i64 (Lib.indexByte t 10)) w) : callF Tryz.prog 173 [str t, str [10]] w K := by
  refine W173_ok ?_
  unfold W173
  rw [lens_str, bin_eql]
  simp only [List.length_cons, List.length_nil]
  rw [show decide (((0 + 1 : Nat) : Int) = 0) = false from rfl]
  refine GdW.look (decide (([10] : Str) = t)) (fun _ J hJ => ?_) fun g => ?_
  · rw [bin_seq]; exact hJ
  simp only [wsv, wsg, wsh, wsl, cond_true, cond_false, exists_eq_left', Option.some.injEq, Option.isSome_some, List.getElem?_toArray, List.getElem?_cons_zero, List.getElem?_cons_succ, List.length_cons, List.length_nil, List.set_cons_zero, List.set_cons_succ, List.getD_cons_zero, List.getD_cons_succ, Nat.zero_add, Nat.add_zero, Nat.reduceAdd, Nat.reduceLT, Nat.lt_add_one, Nat.zero_lt_succ, decide_true, decide_false, ne_eq, reduceCtorEq]
  rw [condW_b]
  refine ⟨fun h => ?_, fun h => ?_⟩
  · have : t = [10] := (of_decide_eq_true h).symm
    subst this
    exact hK
  · refine ⟨fun _ => ⟨by omega, 10, rfl, ?_⟩, fun h => absurd h (by simp)⟩
    refine of_calls (args := #[str t, .int .u8 10]) Tryz.call141 ((Tryz.stringslite_IndexByte (ofL t) 10 w).mono ?_)
    rintro e w' ⟨rfl, rfl⟩
    rw [ofL_data]
    exact ⟨_, rfl, hK⟩
theorem cut_p {t : Str} {w : World} {K : Value → World → Prop} (hl : t.length ≤ 1000000) (hK : ∀ x y w', Ext w w' → K (.tuple #[str (t.takeWhile notNl), x, y]) w') : callF Tryz.prog 72 [str t, str [10]] w K := by
  refine W72_ok ?_
  unfold W72
  refine W133_ok ?_
  unfold W133
  refine idx_p hl ?_
  rw [bin_geq]
  rcases idx_tw t with ⟨h1, h2⟩ | ⟨i, h1, h2, h3⟩
  · rw [h1, show decide ((0 : Int) ≤ -1) = false from rfl, condW_false]
    simp only [wsv, wsg, wsh, wsl, cond_true, cond_false, exists_eq_left', Option.some.injEq, Option.isSome_some, List.getElem?_toArray, List.getElem?_cons_zero, List.getElem?_cons_succ, List.length_cons, List.length_nil, List.set_cons_zero, List.set_cons_succ, List.getD_cons_zero, List.getD_cons_succ, Nat.zero_add, Nat.add_zero, Nat.reduceAdd, Nat.reduceLT, Nat.lt_add_one, Nat.zero_lt_succ, decide_true, decide_false, ne_eq, reduceCtorEq]
    rw [h2] at hK
    exact hK _ _ w (Chg.refl _ _)
  · rw [h1, decide_eq_true (by omega), condW_true, sls_str, bd_some]
    refine ⟨by omega, by omega, ?_⟩
    rw [bd_none, Int.toNat_natCast, List.drop_zero, lens_str, bin_add, sls_str, bd_none, bd_some]
    have e : IntKind.i64.wrap ((i : Int) + (([10] : Str).length : Nat)) = ((i + 1 : Nat) : Int) := by rw [wrap_id (by simp; omega) (by simp; omega)]; simp
    rw [e]
    refine ⟨by omega, by omega, ?_⟩
    dsimp only
    rw [ext_tuple]
    refine ⟨_, rfl, ?_⟩
    rw [ext_tuple]
    refine ⟨_, rfl, ?_⟩
    rw [ext_tuple]
    refine ⟨_, rfl, ?_⟩
    rw [h3] at hK
    exact hK _ _ _ (Chg.drew (Chg.refl _ _))
theorem sclone_p {t : Str} {w : World} {K : Value → World → Prop} (hl : t.length ≤ 1000000) (hK : ∀ w', Ext w w' → K (str t) w') : callF Tryz.prog 73 [str t] w K := by
  refine W73_ok ?_
  unfold W73
  refine of_calls (args := #[str t]) Tryz.call134 ((Tryz.stringslite_Clone (ofL t) w (by rw [ofL_size]; omega)).mono ?_)
  rintro e w' ⟨rfl, hb⟩
  exact ⟨_, rfl, hK w' (Chg.of_below hb)⟩
theorem line_p {s : Str} {a : Int} {w : World} {K : Value → World → Prop} (hl : s.length ≤ 100000) (hK : ∀ w', Ext w w' → K (str (lineM s a)) w') : callF Tryz.prog 28 [str s, i64 a] w K := by
  refine W28_ok ?_
  unfold W28
  have hcl := clamp_le s a
  have hfl := from_le s (clampM s a)
  refine ahead_p ?_
  refine last_p (by rw [List.length_take]; omega) fun v hv => ?_
  rw [List.length_take, Nat.min_eq_left hcl, from_take s (Nat.le_refl _) hcl] at hv
  unfold lineM lineAt at hK
  generalize hc : clampM s a = c at *
  generalize hf : fromM s c = f at *
  rw [bin_add, hv, wrap_id (by omega) (by omega), sls_str, bd_none, bd_some]
  refine ⟨by omega, by omega, ?_⟩
  rw [Int.toNat_natCast, List.take_length]
  refine cut_p (by rw [List.length_drop]; omega) fun x y w1 hx1 => ?_
  rw [ext_tuple]
  refine ⟨_, rfl, ?_⟩
  rw [ext_tuple]
  refine ⟨_, rfl, ?_⟩
  rw [ext_tuple]
  refine ⟨_, rfl, ?_⟩
  refine sclone_p ?_ fun w2 hx2 => hK w2 (hx1.trans hx2)
  have : ((s.drop f).takeWhile notNl).length ≤ (s.drop f).length := (List.takeWhile_sublist _).length_le
  rw [List.length_drop] at this
  omega
end
end Go.Proofs.YtcnjpcadejcenaaGreatDoor

