import Derived.Shelf.Strings.Builder1
import Derived.Shelf.Strings.Builder2
import Derived.Shelf.Strings.OnBuilder
import Derived.Shelf.Small.Utf8
import Derived.Shelf.Small.Strs
import Derived.Shelf.Small.Wraps
import Derived.Shelf.Strings.BuilderF
import Derived.Shelf.Utf8.RuneCount
import Derived.Shelf.Strconv.Atoi
import Derived.Shelf.Strconv.Itoa0
import Derived.Shelf.Strconv.Itoa1
import Derived.Shelf.LaysM
import Derived.Shelf.Strconv.Itoa2
import Derived.Shelf.Strconv.Itoa3
import Derived.Shelf.Strconv.AtoiErrFast
import Derived.Shelf.Strconv.ParseIntEmpty
import Derived.Shelf.Strconv.AtoiFail
import Derived.Shelf.Strconv.Clone
import Derived.Shelf.Strconv.SyntaxError
import Derived.Shelf.LaysC
import Derived.Shelf.Strconv.ToError
import Derived.Shelf.Strconv.Lower
import Derived.Shelf.Strconv.ParseUint10
import Derived.Shelf.Strconv.ParseUint10Empty
import Derived.Shelf.Strconv.ParseUint10Any
import Derived.Shelf.Strconv.ParseInt10
import Derived.Shelf.Strconv.AtoiLong
import Derived.Shelf.Strconv.AtoiInnerAll
import Derived.Shelf.Strconv.RangeError
import Derived.Shelf.Strconv.ToErrorRange
import Derived.Shelf.Strconv.AtoiAll
import Derived.Shelf.Strconv.ErrVarAll
import Derived.Shelf.Strings.Search1
import Derived.Shelf.Strings.Search2
import Derived.Shelf.Strings.Search3
import Derived.Shelf.Strings.Cut
import Derived.Shelf.Strings.Count
import Derived.Shelf.Strings.Shaped
import Derived.Shelf.Sort.Plain
import Derived.Shelf.Strings.Prefix
import Derived.Shelf.Strings.Split
import Derived.Shelf.Strings.SplitShaped
import Derived.Shelf.Unicode.Latin
import Derived.Shelf.Strings.Runes
import Derived.Shelf.Strings.RuneCount
import Derived.Shelf.Bits.Mul64
import Derived.Shelf.Strings.Repeat
import Derived.Shelf.Unicode.DecodeSlow
import Derived.Shelf.Unicode.CaseLookup
import Derived.Shelf.Unicode.CaseConvert
import Derived.Shelf.Unicode.CaseTo
import Derived.Shelf.Unicode.CaseLaid
import Derived.Shelf.Slices.In.SortNone
import Derived.Test.YtffnbkmigapmjaaGreatDoorProg
set_option linter.unusedSimpArgs false
set_option linter.unusedVariables false
namespace Go.Proofs
open Go.Shelf
def Tryz.lays159_ren : Go.Shelf.Ren := ⟨fun | 159 => 239 | 165 => 88 | 166 => 89 | 167 => 253 | 169 => 91 | 230 => 254 | 204 => 255 | 240 => 132 | 241 => 133 | 197 => 262 | 118 => 263 | 168 => 264 | 270 => 265 | 262 => 266 | 276 => 178 | 277 => 179 | 260 => 271 | 242 => 272 | 313 => 273 | 278 => 277 | 274 => 278 | 275 => 279 | n => n, fun | 9 => 9 | 4 => 4 | 3 => 3 | 5 => 5 | 72 => 138 | 0 => 0 | 76 => 141 | 75 => 140 | 107 => 281 | 70 => 136 | 20 => 20 | 37 => 22 | 127 => 183 | 21 => 21 | 105 => 287 | 164 => 224 | 162 => 297 | 203 => 295 | 119 => 299 | 46 => 132 | 139 => 302 | 138 => 301 | 51 => 144 | 160 => 303 | 208 => 309 | 206 => 307 | 80 => 143 | n => n, fun | 13 => 6 | 3 => 7 | 4 => 8 | n => n⟩
theorem Tryz.lays159 : Go.Proofs.Lays.n159 Tryz.prog Tryz.lays159_ren := {
 mixed := by kernel_rfl
 f118 := Tryz.func263.trans (congrArg some (by kernel_rfl))
 f159 := Tryz.func239.trans (congrArg some (by kernel_rfl))
 f165 := Tryz.func88.trans (congrArg some (by kernel_rfl))
 f166 := Tryz.func89.trans (congrArg some (by kernel_rfl))
 f167 := Tryz.func253.trans (congrArg some (by kernel_rfl))
 f168 := Tryz.func264.trans (congrArg some (by kernel_rfl))
 f169 := Tryz.func91.trans (congrArg some (by kernel_rfl))
 f197 := Tryz.func262.trans (congrArg some (by kernel_rfl))
 f204 := Tryz.func255.trans (congrArg some (by kernel_rfl))
 f230 := Tryz.func254.trans (congrArg some (by kernel_rfl))
 f240 := Tryz.func132.trans (congrArg some (by kernel_rfl))
 f241 := Tryz.func133.trans (congrArg some (by kernel_rfl))
 f242 := Tryz.func272.trans (congrArg some (by kernel_rfl))
 f260 := Tryz.func271.trans (congrArg some (by kernel_rfl))
 f262 := Tryz.func266.trans (congrArg some (by kernel_rfl))
 f270 := Tryz.func265.trans (congrArg some (by kernel_rfl))
 f274 := Tryz.func278.trans (congrArg some (by kernel_rfl))
 f275 := Tryz.func279.trans (congrArg some (by kernel_rfl))
 f276 := Tryz.func178.trans (congrArg some (by kernel_rfl))
 f277 := Tryz.func179.trans (congrArg some (by kernel_rfl))
 f278 := Tryz.func277.trans (congrArg some (by kernel_rfl))
 f313 := Tryz.func273.trans (congrArg some (by kernel_rfl))
 t0 := Tryz.underlying0
 a0 := Tryz.isAgg0
 z0 := Tryz.sizeOf0
 v0 := Tryz.zeroValue0
 t3 := Tryz.underlying3
 a3 := Tryz.isAgg3
 z3 := Tryz.sizeOf3
 v3 := Tryz.zeroValue3
 t4 := Tryz.underlying4
 a4 := Tryz.isAgg4
 z4 := Tryz.sizeOf4
 v4 := Tryz.zeroValue4
 t5 := Tryz.underlying5
 a5 := Tryz.isAgg5
 z5 := Tryz.sizeOf5
 v5 := Tryz.zeroValue5
 t9 := Tryz.underlying9
 a9 := Tryz.isAgg9
 z9 := Tryz.sizeOf9
 v9 := Tryz.zeroValue9
 t20 := Tryz.underlying20
 a20 := Tryz.isAgg20
 z20 := Tryz.sizeOf20
 v20 := Tryz.zeroValue20
 t21 := Tryz.underlying21
 a21 := Tryz.isAgg21
 z21 := Tryz.sizeOf21
 v21 := Tryz.zeroValue21
 t37 := Tryz.underlying22
 a37 := Tryz.isAgg22
 z37 := Tryz.sizeOf22
 v37 := Tryz.zeroValue22
 t46 := Tryz.underlying132
 a46 := Tryz.isAgg132
 z46 := Tryz.sizeOf132
 v46 := Tryz.zeroValue132
 t51 := Tryz.underlying144
 a51 := Tryz.isAgg144
 z51 := Tryz.sizeOf144
 v51 := Tryz.zeroValue144
 t70 := Tryz.underlying136
 a70 := Tryz.isAgg136
 z70 := Tryz.sizeOf136
 v70 := Tryz.zeroValue136
 t72 := Tryz.underlying138
 a72 := Tryz.isAgg138
 z72 := Tryz.sizeOf138
 v72 := Tryz.zeroValue138
 t75 := Tryz.underlying140
 a75 := Tryz.isAgg140
 z75 := Tryz.sizeOf140
 v75 := Tryz.zeroValue140
 t76 := Tryz.underlying141
 a76 := Tryz.isAgg141
 z76 := Tryz.sizeOf141
 v76 := Tryz.zeroValue141
 t105 := Tryz.underlying287
 a105 := Tryz.isAgg287
 z105 := Tryz.sizeOf287
 v105 := Tryz.zeroValue287
 t107 := Tryz.underlying281
 a107 := Tryz.isAgg281
 z107 := Tryz.sizeOf281
 v107 := Tryz.zeroValue281
 t119 := Tryz.underlying299
 a119 := Tryz.isAgg299
 z119 := Tryz.sizeOf299
 t127 := Tryz.underlying183
 a127 := Tryz.isAgg183
 z127 := Tryz.sizeOf183
 v127 := Tryz.zeroValue183
 t138 := Tryz.underlying301
 a138 := Tryz.isAgg301
 z138 := Tryz.sizeOf301
 v138 := Tryz.zeroValue301
 t139 := Tryz.underlying302
 a139 := Tryz.isAgg302
 z139 := Tryz.sizeOf302
 v139 := Tryz.zeroValue302
 t160 := Tryz.underlying303
 a160 := Tryz.isAgg303
 z160 := Tryz.sizeOf303
 v160 := Tryz.zeroValue303
 t162 := Tryz.underlying297
 a162 := Tryz.isAgg297
 z162 := Tryz.sizeOf297
 v162 := Tryz.zeroValue297
 t164 := Tryz.underlying224
 a164 := Tryz.isAgg224
 z164 := Tryz.sizeOf224
 v164 := Tryz.zeroValue224
 t203 := Tryz.underlying295
 a203 := Tryz.isAgg295
 z203 := Tryz.sizeOf295
 v203 := Tryz.zeroValue295
 t206 := Tryz.underlying307
 a206 := Tryz.isAgg307
 z206 := Tryz.sizeOf307
 v206 := Tryz.zeroValue307
 t208 := Tryz.underlying309
 a208 := Tryz.isAgg309
 z208 := Tryz.sizeOf309
 v208 := Tryz.zeroValue309
 g3 := by kernel_rfl
 g4 := by kernel_rfl
 g13 := by kernel_rfl }
theorem Tryz.Builder_Extra_159 : Builder.Extra Tryz.prog Tryz.lays159_ren := {
 sizeBuilder := by kernel_rfl
 liesBuilder := by kernel_rfl
 t5 := Tryz.underlying5
 a5 := Tryz.isAgg5
 z5 := Tryz.sizeOf5
 v5 := Tryz.zeroValue5
 infoByte := by kernel_rfl
 cellsByte := by kernel_rfl
 sizeByte := by kernel_rfl
 neB5 := by decide }
open Go.RowKit in
theorem Tryz.strings_ToLower_ascii (s : ByteArray) (w : World) (hs : s.size ≤ 140737488355328) (hascii : ∀ (j : Nat) (b : UInt8), s.data.toList[j]? = some b → b.toNat < 128) :
 Calls Tryz.prog 239 #[.string s] w fun e w' => e = .returned (.string ⟨(Lib.toLowerA s.data.toList).toArray⟩) ∧ Below w.heap.size w w' := Any.strings_ToLower_ascii Tryz.lays159 Tryz.Builder_Extra_159 s w hs hascii
def Tryz.lays119_ren : Go.Shelf.Ren := ⟨fun | 119 => 274 | n => n, fun | 21 => 21 | 4 => 4 | n => n, fun | n => n⟩
theorem Tryz.lays119 : Go.Proofs.Lays.n119 Tryz.prog Tryz.lays119_ren := {
 mixed := by kernel_rfl
 f119 := Tryz.func274.trans (congrArg some (by kernel_rfl))
 t4 := Tryz.underlying4
 a4 := Tryz.isAgg4
 z4 := Tryz.sizeOf4
 v4 := Tryz.zeroValue4
 t21 := Tryz.underlying21
 a21 := Tryz.isAgg21
 z21 := Tryz.sizeOf21
 v21 := Tryz.zeroValue21 }
theorem Tryz.utf8_ValidRune (r : Int) (w : World) :
 Calls Tryz.prog 274 #[.int .i32 r] w fun e w' => e = .returned (.bool (Lib.validRune r)) ∧ w' = w := Any.utf8_ValidRune Tryz.lays119 r w
def Tryz.lays137_ren : Go.Shelf.Ren := ⟨fun | 137 => 84 | 217 => 127 | 266 => 173 | n => n, fun | 9 => 9 | 5 => 5 | 3 => 3 | n => n, fun | n => n⟩
theorem Tryz.lays137 : Go.Proofs.Lays.n137 Tryz.prog Tryz.lays137_ren := {
 mixed := by kernel_rfl
 f137 := Tryz.func84.trans (congrArg some (by kernel_rfl))
 f217 := Tryz.func127.trans (congrArg some (by kernel_rfl))
 f266 := Tryz.func173.trans (congrArg some (by kernel_rfl))
 t3 := Tryz.underlying3
 a3 := Tryz.isAgg3
 z3 := Tryz.sizeOf3
 v3 := Tryz.zeroValue3
 t5 := Tryz.underlying5
 a5 := Tryz.isAgg5
 z5 := Tryz.sizeOf5
 v5 := Tryz.zeroValue5
 t9 := Tryz.underlying9
 a9 := Tryz.isAgg9
 z9 := Tryz.sizeOf9
 v9 := Tryz.zeroValue9 }
open Go.RowKit in
theorem Tryz.strings_IndexByte (s : ByteArray) (c : Int) (w : World) :
 Calls Tryz.prog 84 #[.string s, .int .u8 c] w fun e w' => e = .returned (.int .i64 (Lib.indexByte s.data.toList c.toNat.toUInt8)) ∧ w' = w := Any.strings_IndexByte Tryz.lays137 s c w
def Tryz.lays103_ren : Go.Shelf.Ren := ⟨fun | 103 => 180 | 210 => 208 | 206 => 131 | n => n, fun | 9 => 9 | 4 => 4 | 24 => 176 | 3 => 3 | n => n, fun | n => n⟩
theorem Tryz.lays103 : Go.Proofs.Lays.n103 Tryz.prog Tryz.lays103_ren := {
 mixed := by kernel_rfl
 f103 := Tryz.func180.trans (congrArg some (by kernel_rfl))
 f206 := Tryz.func131.trans (congrArg some (by kernel_rfl))
 f210 := Tryz.func208.trans (congrArg some (by kernel_rfl))
 t3 := Tryz.underlying3
 a3 := Tryz.isAgg3
 z3 := Tryz.sizeOf3
 v3 := Tryz.zeroValue3
 t4 := Tryz.underlying4
 a4 := Tryz.isAgg4
 z4 := Tryz.sizeOf4
 v4 := Tryz.zeroValue4
 t9 := Tryz.underlying9
 a9 := Tryz.isAgg9
 z9 := Tryz.sizeOf9
 v9 := Tryz.zeroValue9
 t24 := Tryz.underlying176
 a24 := Tryz.isAgg176
 z24 := Tryz.sizeOf176
 v24 := Tryz.zeroValue176 }
open Go.RowKit in
theorem Tryz.strings_CutPrefix (s p : ByteArray) (w : World) :
 Calls Tryz.prog 180 #[.string s, .string p] w fun e w' => e = .returned (.tuple #[.string ⟨(Lib.trimPrefix s.data.toList p.data.toList).toArray⟩, .bool (Lib.hasPrefix s.data.toList p.data.toList)]) ∧ w' = w := Any.strings_CutPrefix Tryz.lays103 s p w
def Tryz.laysM171_ren : Go.Shelf.Ren := ⟨fun | 171 => 45 | 243 => 85 | 246 => 128 | 283 => 174 | 284 => 175 | 285 => 176 | 286 => 177 | 129 => 158 | 317 => 204 | 318 => 205 | 319 => 206 | 320 => 207 | 337 => 222 | 338 => 223 | n => n, fun | 3 => 3 | 9 => 9 | 2 => 2 | 4 => 4 | 171 => 220 | 0 => 0 | 53 => 146 | 37 => 22 | 5 => 5 | 173 => 222 | 212 => 244 | 51 => 144 | 20 => 20 | 213 => 245 | 46 => 132 | 232 => 270 | 233 => 271 | n => n, fun | 17 => 1 | 18 => 4 | 19 => 5 | n => n⟩
theorem Tryz.laysM171 : Go.Proofs.LaysM.n171 Tryz.prog Tryz.laysM171_ren := {
 mixed := by kernel_rfl
 f129 := Tryz.func158.trans (congrArg some (by kernel_rfl))
 f171 := Tryz.func45.trans (congrArg some (by kernel_rfl))
 f243 := Tryz.func85.trans (congrArg some (by kernel_rfl))
 f246 := Tryz.func128.trans (congrArg some (by kernel_rfl))
 f283 := Tryz.func174.trans (congrArg some (by kernel_rfl))
 f284 := Tryz.func175.trans (congrArg some (by kernel_rfl))
 f285 := Tryz.func176.trans (congrArg some (by kernel_rfl))
 f286 := Tryz.func177.trans (congrArg some (by kernel_rfl))
 f317 := Tryz.func204.trans (congrArg some (by kernel_rfl))
 f318 := Tryz.func205.trans (congrArg some (by kernel_rfl))
 f319 := Tryz.func206.trans (congrArg some (by kernel_rfl))
 f320 := Tryz.func207.trans (congrArg some (by kernel_rfl))
 f337 := Tryz.func222.trans (congrArg some (by kernel_rfl))
 f338 := Tryz.func223.trans (congrArg some (by kernel_rfl))
 t0 := Tryz.underlying0
 a0 := Tryz.isAgg0
 z0 := Tryz.sizeOf0
 v0 := Tryz.zeroValue0
 t2 := Tryz.underlying2
 a2 := Tryz.isAgg2
 z2 := Tryz.sizeOf2
 v2 := Tryz.zeroValue2
 t3 := Tryz.underlying3
 a3 := Tryz.isAgg3
 z3 := Tryz.sizeOf3
 v3 := Tryz.zeroValue3
 t4 := Tryz.underlying4
 a4 := Tryz.isAgg4
 z4 := Tryz.sizeOf4
 v4 := Tryz.zeroValue4
 t5 := Tryz.underlying5
 a5 := Tryz.isAgg5
 z5 := Tryz.sizeOf5
 v5 := Tryz.zeroValue5
 t9 := Tryz.underlying9
 a9 := Tryz.isAgg9
 z9 := Tryz.sizeOf9
 v9 := Tryz.zeroValue9
 t20 := Tryz.underlying20
 a20 := Tryz.isAgg20
 z20 := Tryz.sizeOf20
 v20 := Tryz.zeroValue20
 t37 := Tryz.underlying22
 a37 := Tryz.isAgg22
 z37 := Tryz.sizeOf22
 v37 := Tryz.zeroValue22
 t46 := Tryz.underlying132
 a46 := Tryz.isAgg132
 z46 := Tryz.sizeOf132
 v46 := Tryz.zeroValue132
 t51 := Tryz.underlying144
 a51 := Tryz.isAgg144
 z51 := Tryz.sizeOf144
 v51 := Tryz.zeroValue144
 t53 := Tryz.underlying146
 a53 := Tryz.isAgg146
 z53 := Tryz.sizeOf146
 v53 := Tryz.zeroValue146
 t171 := Tryz.underlying220
 a171 := Tryz.isAgg220
 z171 := Tryz.sizeOf220
 v171 := Tryz.zeroValue220
 t173 := Tryz.underlying222
 a173 := Tryz.isAgg222
 z173 := Tryz.sizeOf222
 v173 := Tryz.zeroValue222
 t212 := Tryz.underlying244
 a212 := Tryz.isAgg244
 z212 := Tryz.sizeOf244
 v212 := Tryz.zeroValue244
 t213 := Tryz.underlying245
 a213 := Tryz.isAgg245
 z213 := Tryz.sizeOf245
 t232 := Tryz.underlying270
 a232 := Tryz.isAgg270
 z232 := Tryz.sizeOf270
 v232 := Tryz.zeroValue270
 t233 := Tryz.underlying271
 a233 := Tryz.isAgg271
 z233 := Tryz.sizeOf271
 v233 := Tryz.zeroValue271
 g17 := by kernel_rfl
 g18 := by kernel_rfl
 g19 := by kernel_rfl
 i0 := by kernel_rfl
 i2 := by kernel_rfl
 i3 := by kernel_rfl
 i4 := by kernel_rfl
 i5 := by kernel_rfl
 i9 := by kernel_rfl
 i20 := by kernel_rfl
 i37 := by kernel_rfl
 i46 := by kernel_rfl
 i51 := by kernel_rfl
 i53 := by kernel_rfl
 i171 := by kernel_rfl
 i173 := by kernel_rfl
 i212 := by kernel_rfl
 i232 := by kernel_rfl
 i233 := by kernel_rfl
 m17 := by kernel_rfl
 m18 := by kernel_rfl
 m19 := by kernel_rfl }
open Go.RowKit Go.Sort Go.Lib in
theorem Tryz.strconv_Itoa (n : Int) (h0 : -9223372036854775808 ≤ n) (h1 : n ≤ 9223372036854775807) (w : World) (htab : Lib.TabIs Tryz.prog w "internal/strconv.uint64pow10" .u64 Lib.pow10Tab) :
 Calls Tryz.prog 45 #[.int .i64 n] w fun e w' => e = .returned (.string ⟨(Lib.itoa n).toArray⟩) ∧ ∃ k os, w' = grow (w.drewN k) os := Any.strconv_Itoa Tryz.laysM171 n h0 h1 w htab
def Tryz.laysC172_ren : Go.Shelf.Ren := ⟨fun | 172 => 139 | 244 => 185 | 245 => 186 | 247 => 211 | 279 => 212 | 280 => 213 | 281 => 214 | 282 => 215 | 287 => 233 | 316 => 234 | 171 => 45 | 205 => 235 | 321 => 244 | 322 => 245 | 243 => 85 | 246 => 128 | 283 => 174 | 284 => 175 | 285 => 176 | 286 => 177 | 129 => 158 | 317 => 204 | 318 => 205 | 319 => 206 | 320 => 207 | 337 => 222 | 338 => 223 | n => n, fun | 9 => 9 | 3 => 3 | 75 => 140 | 76 => 141 | 4 => 4 | 5 => 5 | 167 => 248 | 37 => 22 | 0 => 0 | 85 => 249 | 2 => 2 | 168 => 251 | 53 => 146 | 175 => 265 | 46 => 132 | 210 => 268 | 127 => 183 | 145 => 277 | 143 => 275 | 21 => 21 | 171 => 220 | 173 => 222 | 212 => 244 | 51 => 144 | 20 => 20 | 213 => 245 | 232 => 270 | 233 => 271 | 80 => 143 | n => n, fun | 15 => 2 | 16 => 3 | 17 => 1 | 18 => 4 | 19 => 5 | n => n⟩
theorem Tryz.laysC172 : Go.Proofs.LaysC.n172 Tryz.prog Tryz.laysC172_ren := {
 mixed := by kernel_rfl
 f129 := Tryz.func158.trans (congrArg some (by kernel_rfl))
 f171 := Tryz.func45.trans (congrArg some (by kernel_rfl))
 f172 := Tryz.func139.trans (congrArg some (by kernel_rfl))
 f205 := Tryz.func235.trans (congrArg some (by kernel_rfl))
 f243 := Tryz.func85.trans (congrArg some (by kernel_rfl))
 f244 := Tryz.func185.trans (congrArg some (by kernel_rfl))
 f245 := Tryz.func186.trans (congrArg some (by kernel_rfl))
 f246 := Tryz.func128.trans (congrArg some (by kernel_rfl))
 f247 := Tryz.func211.trans (congrArg some (by kernel_rfl))
 f279 := Tryz.func212.trans (congrArg some (by kernel_rfl))
 f280 := Tryz.func213.trans (congrArg some (by kernel_rfl))
 f281 := Tryz.func214.trans (congrArg some (by kernel_rfl))
 f282 := Tryz.func215.trans (congrArg some (by kernel_rfl))
 f283 := Tryz.func174.trans (congrArg some (by kernel_rfl))
 f284 := Tryz.func175.trans (congrArg some (by kernel_rfl))
 f285 := Tryz.func176.trans (congrArg some (by kernel_rfl))
 f286 := Tryz.func177.trans (congrArg some (by kernel_rfl))
 f287 := Tryz.func233.trans (congrArg some (by kernel_rfl))
 f316 := Tryz.func234.trans (congrArg some (by kernel_rfl))
 f317 := Tryz.func204.trans (congrArg some (by kernel_rfl))
 f318 := Tryz.func205.trans (congrArg some (by kernel_rfl))
 f319 := Tryz.func206.trans (congrArg some (by kernel_rfl))
 f320 := Tryz.func207.trans (congrArg some (by kernel_rfl))
 f321 := Tryz.func244.trans (congrArg some (by kernel_rfl))
 f322 := Tryz.func245.trans (congrArg some (by kernel_rfl))
 f337 := Tryz.func222.trans (congrArg some (by kernel_rfl))
 f338 := Tryz.func223.trans (congrArg some (by kernel_rfl))
 t0 := Tryz.underlying0
 a0 := Tryz.isAgg0
 z0 := Tryz.sizeOf0
 v0 := Tryz.zeroValue0
 t2 := Tryz.underlying2
 a2 := Tryz.isAgg2
 z2 := Tryz.sizeOf2
 v2 := Tryz.zeroValue2
 t3 := Tryz.underlying3
 a3 := Tryz.isAgg3
 z3 := Tryz.sizeOf3
 v3 := Tryz.zeroValue3
 t4 := Tryz.underlying4
 a4 := Tryz.isAgg4
 z4 := Tryz.sizeOf4
 v4 := Tryz.zeroValue4
 t5 := Tryz.underlying5
 a5 := Tryz.isAgg5
 z5 := Tryz.sizeOf5
 v5 := Tryz.zeroValue5
 t9 := Tryz.underlying9
 a9 := Tryz.isAgg9
 z9 := Tryz.sizeOf9
 v9 := Tryz.zeroValue9
 t20 := Tryz.underlying20
 a20 := Tryz.isAgg20
 z20 := Tryz.sizeOf20
 v20 := Tryz.zeroValue20
 t21 := Tryz.underlying21
 a21 := Tryz.isAgg21
 z21 := Tryz.sizeOf21
 v21 := Tryz.zeroValue21
 t37 := Tryz.underlying22
 a37 := Tryz.isAgg22
 z37 := Tryz.sizeOf22
 v37 := Tryz.zeroValue22
 t46 := Tryz.underlying132
 a46 := Tryz.isAgg132
 z46 := Tryz.sizeOf132
 v46 := Tryz.zeroValue132
 t51 := Tryz.underlying144
 a51 := Tryz.isAgg144
 z51 := Tryz.sizeOf144
 v51 := Tryz.zeroValue144
 t53 := Tryz.underlying146
 a53 := Tryz.isAgg146
 z53 := Tryz.sizeOf146
 v53 := Tryz.zeroValue146
 t75 := Tryz.underlying140
 a75 := Tryz.isAgg140
 z75 := Tryz.sizeOf140
 v75 := Tryz.zeroValue140
 t76 := Tryz.underlying141
 a76 := Tryz.isAgg141
 z76 := Tryz.sizeOf141
 v76 := Tryz.zeroValue141
 t85 := Tryz.underlying249
 a85 := Tryz.isAgg249
 z85 := Tryz.sizeOf249
 v85 := Tryz.zeroValue249
 t127 := Tryz.underlying183
 a127 := Tryz.isAgg183
 z127 := Tryz.sizeOf183
 v127 := Tryz.zeroValue183
 t143 := Tryz.underlying275
 a143 := Tryz.isAgg275
 z143 := Tryz.sizeOf275
 v143 := Tryz.zeroValue275
 t145 := Tryz.underlying277
 a145 := Tryz.isAgg277
 z145 := Tryz.sizeOf277
 v145 := Tryz.zeroValue277
 t167 := Tryz.underlying248
 a167 := Tryz.isAgg248
 z167 := Tryz.sizeOf248
 v167 := Tryz.zeroValue248
 t168 := Tryz.underlying251
 a168 := Tryz.isAgg251
 z168 := Tryz.sizeOf251
 v168 := Tryz.zeroValue251
 t171 := Tryz.underlying220
 a171 := Tryz.isAgg220
 z171 := Tryz.sizeOf220
 v171 := Tryz.zeroValue220
 t173 := Tryz.underlying222
 a173 := Tryz.isAgg222
 z173 := Tryz.sizeOf222
 v173 := Tryz.zeroValue222
 t175 := Tryz.underlying265
 a175 := Tryz.isAgg265
 z175 := Tryz.sizeOf265
 v175 := Tryz.zeroValue265
 t210 := Tryz.underlying268
 a210 := Tryz.isAgg268
 z210 := Tryz.sizeOf268
 v210 := Tryz.zeroValue268
 t212 := Tryz.underlying244
 a212 := Tryz.isAgg244
 z212 := Tryz.sizeOf244
 v212 := Tryz.zeroValue244
 t213 := Tryz.underlying245
 a213 := Tryz.isAgg245
 z213 := Tryz.sizeOf245
 t232 := Tryz.underlying270
 a232 := Tryz.isAgg270
 z232 := Tryz.sizeOf270
 v232 := Tryz.zeroValue270
 t233 := Tryz.underlying271
 a233 := Tryz.isAgg271
 z233 := Tryz.sizeOf271
 v233 := Tryz.zeroValue271
 g15 := by kernel_rfl
 g16 := by kernel_rfl
 g17 := by kernel_rfl
 g18 := by kernel_rfl
 g19 := by kernel_rfl
 t80 := Tryz.underlying143
 a80 := Tryz.isAgg143
 z80 := Tryz.sizeOf143
 v80 := Tryz.zeroValue143
 i0 := by kernel_rfl
 i2 := by kernel_rfl
 i3 := by kernel_rfl
 i4 := by kernel_rfl
 i5 := by kernel_rfl
 i9 := by kernel_rfl
 i20 := by kernel_rfl
 i21 := by kernel_rfl
 i37 := by kernel_rfl
 i46 := by kernel_rfl
 i51 := by kernel_rfl
 i53 := by kernel_rfl
 i75 := by kernel_rfl
 i76 := by kernel_rfl
 i80 := by kernel_rfl
 i85 := by kernel_rfl
 i127 := by kernel_rfl
 i143 := by kernel_rfl
 i145 := by kernel_rfl
 i167 := by kernel_rfl
 i168 := by kernel_rfl
 i171 := by kernel_rfl
 i173 := by kernel_rfl
 i175 := by kernel_rfl
 i210 := by kernel_rfl
 i212 := by kernel_rfl
 i232 := by kernel_rfl
 i233 := by kernel_rfl
 m15 := by kernel_rfl
 m16 := by kernel_rfl
 m17 := by kernel_rfl
 m18 := by kernel_rfl
 m19 := by kernel_rfl
 c0 := by kernel_rfl
 c2 := by kernel_rfl
 c3 := by kernel_rfl
 c4 := by kernel_rfl
 c5 := by kernel_rfl
 c9 := by kernel_rfl
 c20 := by kernel_rfl
 c21 := by kernel_rfl
 c37 := by kernel_rfl
 c46 := by kernel_rfl
 c51 := by kernel_rfl
 c53 := by kernel_rfl
 c75 := by kernel_rfl
 c76 := by kernel_rfl
 c80 := by kernel_rfl
 c85 := by kernel_rfl
 c127 := by kernel_rfl
 c143 := by kernel_rfl
 c145 := by kernel_rfl
 c167 := by kernel_rfl
 c168 := by kernel_rfl
 c171 := by kernel_rfl
 c173 := by kernel_rfl
 c175 := by kernel_rfl
 c210 := by kernel_rfl
 c212 := by kernel_rfl
 c213 := by kernel_rfl
 c232 := by kernel_rfl
 c233 := by kernel_rfl }
open Go.RowKit in
theorem Tryz.strconv_Atoi_ok (s : ByteArray) (hmax : s.size ≤ 9223372036854775806) (v : Int) (h : Lib.atoiAll s.data.toList = .ok v) (w : World) :
 Calls Tryz.prog 139 #[.string s] w fun e w' => e = .returned (.tuple #[.int .i64 v, .nilIface]) ∧ (w' = w ∨ ∃ t, w' = Lib.bytesWorld w 5 t) := Any.strconv_Atoi_ok Tryz.laysC172 s hmax v h w
open Go.RowKit in
theorem Tryz.strconv_Atoi_syntax (s : ByteArray) (hlim : s.size ≤ 281474976710656) (hok : ∀ v, Lib.atoiAll s.data.toList ≠ .ok v) (hrg : Lib.atoiAll s.data.toList ≠ .range) (ev : Value) (w : World) (hv : w.cell? ⟨2, 0, none⟩ = some ev) (hev : ev = .nilIface ∨ ∃ te pe, ev = .iface te pe) :
 Calls Tryz.prog 139 #[.string s] w fun e w' => ∃ N, e = .returned (.tuple #[.int .i64 (0), .iface 251 (.pointer (some ⟨N, 0, none⟩))]) ∧ w.heap.size ≤ N ∧ w'.heap[N]? = some (.cells #[.string ⟨#[65, 116, 111, 105]⟩, .string s, ev] 268 (0, 0)) ∧ Below w.heap.size w w' := by
 cases h : Lib.atoiAll s.data.toList
 ·exact absurd h (hok _)
 ·exact Any.strconv_Atoi_syntax Tryz.laysC172 s hlim h ev w hv hev
 ·exact absurd h hrg
open Go.RowKit in
theorem Tryz.strconv_Atoi_range (s : ByteArray) (hlim : s.size ≤ 281474976710656) (h : Lib.atoiAll s.data.toList = .range) (ev : Value) (w : World) (hv : w.cell? ⟨3, 0, none⟩ = some ev) (hev : ev = .nilIface ∨ ∃ te pe, ev = .iface te pe) :
 Calls Tryz.prog 139 #[.string s] w fun e w' => ∃ N, e = .returned (.tuple #[.int .i64 (Lib.atoiSat s.data.toList), .iface 251 (.pointer (some ⟨N, 0, none⟩))]) ∧ w.heap.size ≤ N ∧ w'.heap[N]? = some (.cells #[.string ⟨#[65, 116, 111, 105]⟩, .string s, ev] 268 (0, 0)) ∧ Below w.heap.size w w' := Any.strconv_Atoi_range Tryz.laysC172 s hlim h ev w hv hev
def Tryz.lays144_ren : Go.Shelf.Ren := ⟨fun | 144 => 197 | 143 => 217 | 219 => 236 | 217 => 127 | 225 => 246 | 224 => 247 | 267 => 248 | 266 => 173 | 314 => 257 | n => n, fun | 9 => 9 | 4 => 4 | 3 => 3 | 5 => 5 | 46 => 132 | 146 => 179 | 51 => 144 | n => n, fun | 1 => 0 | n => n⟩
theorem Tryz.lays144 : Go.Proofs.Lays.n144 Tryz.prog Tryz.lays144_ren := {
 mixed := by kernel_rfl
 f143 := Tryz.func217.trans (congrArg some (by kernel_rfl))
 f144 := Tryz.func197.trans (congrArg some (by kernel_rfl))
 f217 := Tryz.func127.trans (congrArg some (by kernel_rfl))
 f219 := Tryz.func236.trans (congrArg some (by kernel_rfl))
 f224 := Tryz.func247.trans (congrArg some (by kernel_rfl))
 f225 := Tryz.func246.trans (congrArg some (by kernel_rfl))
 f266 := Tryz.func173.trans (congrArg some (by kernel_rfl))
 f267 := Tryz.func248.trans (congrArg some (by kernel_rfl))
 f314 := Tryz.func257.trans (congrArg some (by kernel_rfl))
 t3 := Tryz.underlying3
 a3 := Tryz.isAgg3
 z3 := Tryz.sizeOf3
 v3 := Tryz.zeroValue3
 t4 := Tryz.underlying4
 a4 := Tryz.isAgg4
 z4 := Tryz.sizeOf4
 v4 := Tryz.zeroValue4
 t5 := Tryz.underlying5
 a5 := Tryz.isAgg5
 z5 := Tryz.sizeOf5
 v5 := Tryz.zeroValue5
 t9 := Tryz.underlying9
 a9 := Tryz.isAgg9
 z9 := Tryz.sizeOf9
 v9 := Tryz.zeroValue9
 t46 := Tryz.underlying132
 a46 := Tryz.isAgg132
 z46 := Tryz.sizeOf132
 v46 := Tryz.zeroValue132
 t51 := Tryz.underlying144
 a51 := Tryz.isAgg144
 z51 := Tryz.sizeOf144
 v51 := Tryz.zeroValue144
 t146 := Tryz.underlying179
 a146 := Tryz.isAgg179
 z146 := Tryz.sizeOf179
 v146 := Tryz.zeroValue179
 g1 := by kernel_rfl }
open Go.RowKit Go.Lib in
theorem Tryz.strings_Contains_one (s : ByteArray) (c : UInt8) (w : World) :
 Calls Tryz.prog 197 #[.string s, .string ⟨#[c]⟩] w fun e w' => e = .returned (.bool (decide (0 ≤ Lib.indexByte s.data.toList c))) ∧ w' = w := Any.strings_Contains_one Tryz.lays144 s c w
open Go.RowKit Go.Lib in
theorem Tryz.strings_Contains (s sub : ByteArray) (m : Int) (w : World) (hs : s.size < 4294967281) (hm : w.cell? ⟨0, 0, none⟩ = some (.int .i64 m)) :
 Calls Tryz.prog 197 #[.string s, .string sub] w fun e w' => e = .returned (.bool (Lib.contains s.data.toList sub.data.toList)) ∧ w' = w := Any.strings_Contains Tryz.lays144 s sub m w hs hm
def Tryz.lays145_ren : Go.Shelf.Ren := ⟨fun | 145 => 198 | 220 => 218 | 219 => 236 | 217 => 127 | 225 => 246 | 224 => 247 | 267 => 248 | 266 => 173 | 314 => 257 | n => n, fun | 9 => 9 | 4 => 4 | 59 => 218 | 3 => 3 | 5 => 5 | 46 => 132 | 146 => 179 | 51 => 144 | n => n, fun | 1 => 0 | n => n⟩
theorem Tryz.lays145 : Go.Proofs.Lays.n145 Tryz.prog Tryz.lays145_ren := {
 mixed := by kernel_rfl
 f145 := Tryz.func198.trans (congrArg some (by kernel_rfl))
 f217 := Tryz.func127.trans (congrArg some (by kernel_rfl))
 f219 := Tryz.func236.trans (congrArg some (by kernel_rfl))
 f220 := Tryz.func218.trans (congrArg some (by kernel_rfl))
 f224 := Tryz.func247.trans (congrArg some (by kernel_rfl))
 f225 := Tryz.func246.trans (congrArg some (by kernel_rfl))
 f266 := Tryz.func173.trans (congrArg some (by kernel_rfl))
 f267 := Tryz.func248.trans (congrArg some (by kernel_rfl))
 f314 := Tryz.func257.trans (congrArg some (by kernel_rfl))
 t3 := Tryz.underlying3
 a3 := Tryz.isAgg3
 z3 := Tryz.sizeOf3
 v3 := Tryz.zeroValue3
 t4 := Tryz.underlying4
 a4 := Tryz.isAgg4
 z4 := Tryz.sizeOf4
 v4 := Tryz.zeroValue4
 t5 := Tryz.underlying5
 a5 := Tryz.isAgg5
 z5 := Tryz.sizeOf5
 v5 := Tryz.zeroValue5
 t9 := Tryz.underlying9
 a9 := Tryz.isAgg9
 z9 := Tryz.sizeOf9
 v9 := Tryz.zeroValue9
 t46 := Tryz.underlying132
 a46 := Tryz.isAgg132
 z46 := Tryz.sizeOf132
 v46 := Tryz.zeroValue132
 t51 := Tryz.underlying144
 a51 := Tryz.isAgg144
 z51 := Tryz.sizeOf144
 v51 := Tryz.zeroValue144
 t59 := Tryz.underlying218
 a59 := Tryz.isAgg218
 z59 := Tryz.sizeOf218
 v59 := Tryz.zeroValue218
 t146 := Tryz.underlying179
 a146 := Tryz.isAgg179
 z146 := Tryz.sizeOf179
 v146 := Tryz.zeroValue179
 g1 := by kernel_rfl }
open Go.RowKit Go.Lib in
theorem Tryz.strings_Cut (s sep : ByteArray) (m : Int) (w : World) (hs : s.size < 4294967281) (hm : w.cell? ⟨0, 0, none⟩ = some (.int .i64 m)) :
 Calls Tryz.prog 198 #[.string s, .string sep] w fun e w' => e = .returned (.tuple #[.string ⟨(Lib.cut s.data.toList sep.data.toList).1.toArray⟩, .string ⟨(Lib.cut s.data.toList sep.data.toList).2.1.toArray⟩, .bool (Lib.cut s.data.toList sep.data.toList).2.2]) ∧ ∃ n, w' = w.drewN n := Any.strings_Cut Tryz.lays145 s sep m w hs hm
def Tryz.lays189_ren : Go.Shelf.Ren := ⟨fun | 189 => 59 | 125 => 107 | 257 => 106 | 128 => 157 | 129 => 158 | 294 => 148 | 295 => 149 | 296 => 150 | 297 => 151 | 298 => 152 | 299 => 153 | 216 => 154 | 300 => 155 | 301 => 156 | 328 => 191 | 329 => 192 | 330 => 193 | 331 => 194 | 332 => 195 | 215 => 196 | 343 => 216 | n => n, fun | 28 => 47 | 3 => 3 | 46 => 132 | 0 => 0 | 51 => 144 | 53 => 146 | 4 => 4 | 183 => 204 | 182 => 203 | 131 => 186 | 5 => 5 | 9 => 9 | 218 => 235 | 222 => 233 | 228 => 254 | 229 => 255 | n => n, fun | n => n⟩
theorem Tryz.lays189 : Go.Proofs.Lays.n189 Tryz.prog Tryz.lays189_ren := {
 mixed := by kernel_rfl
 f125 := Tryz.func107.trans (congrArg some (by kernel_rfl))
 f128 := Tryz.func157.trans (congrArg some (by kernel_rfl))
 f129 := Tryz.func158.trans (congrArg some (by kernel_rfl))
 f189 := Tryz.func59.trans (congrArg some (by kernel_rfl))
 f215 := Tryz.func196.trans (congrArg some (by kernel_rfl))
 f216 := Tryz.func154.trans (congrArg some (by kernel_rfl))
 f257 := Tryz.func106.trans (congrArg some (by kernel_rfl))
 f294 := Tryz.func148.trans (congrArg some (by kernel_rfl))
 f295 := Tryz.func149.trans (congrArg some (by kernel_rfl))
 f296 := Tryz.func150.trans (congrArg some (by kernel_rfl))
 f297 := Tryz.func151.trans (congrArg some (by kernel_rfl))
 f298 := Tryz.func152.trans (congrArg some (by kernel_rfl))
 f299 := Tryz.func153.trans (congrArg some (by kernel_rfl))
 f300 := Tryz.func155.trans (congrArg some (by kernel_rfl))
 f301 := Tryz.func156.trans (congrArg some (by kernel_rfl))
 f328 := Tryz.func191.trans (congrArg some (by kernel_rfl))
 f329 := Tryz.func192.trans (congrArg some (by kernel_rfl))
 f330 := Tryz.func193.trans (congrArg some (by kernel_rfl))
 f331 := Tryz.func194.trans (congrArg some (by kernel_rfl))
 f332 := Tryz.func195.trans (congrArg some (by kernel_rfl))
 f343 := Tryz.func216.trans (congrArg some (by kernel_rfl))
 t0 := Tryz.underlying0
 a0 := Tryz.isAgg0
 z0 := Tryz.sizeOf0
 v0 := Tryz.zeroValue0
 t3 := Tryz.underlying3
 a3 := Tryz.isAgg3
 z3 := Tryz.sizeOf3
 v3 := Tryz.zeroValue3
 t4 := Tryz.underlying4
 a4 := Tryz.isAgg4
 z4 := Tryz.sizeOf4
 v4 := Tryz.zeroValue4
 t5 := Tryz.underlying5
 a5 := Tryz.isAgg5
 z5 := Tryz.sizeOf5
 v5 := Tryz.zeroValue5
 t9 := Tryz.underlying9
 a9 := Tryz.isAgg9
 z9 := Tryz.sizeOf9
 v9 := Tryz.zeroValue9
 t28 := Tryz.underlying47
 a28 := Tryz.isAgg47
 z28 := Tryz.sizeOf47
 v28 := Tryz.zeroValue47
 t46 := Tryz.underlying132
 a46 := Tryz.isAgg132
 z46 := Tryz.sizeOf132
 v46 := Tryz.zeroValue132
 t51 := Tryz.underlying144
 a51 := Tryz.isAgg144
 z51 := Tryz.sizeOf144
 v51 := Tryz.zeroValue144
 t53 := Tryz.underlying146
 a53 := Tryz.isAgg146
 z53 := Tryz.sizeOf146
 v53 := Tryz.zeroValue146
 t131 := Tryz.underlying186
 a131 := Tryz.isAgg186
 z131 := Tryz.sizeOf186
 v131 := Tryz.zeroValue186
 t182 := Tryz.underlying203
 a182 := Tryz.isAgg203
 z182 := Tryz.sizeOf203
 v182 := Tryz.zeroValue203
 t183 := Tryz.underlying204
 a183 := Tryz.isAgg204
 z183 := Tryz.sizeOf204
 v183 := Tryz.zeroValue204
 t218 := Tryz.underlying235
 a218 := Tryz.isAgg235
 z218 := Tryz.sizeOf235
 v218 := Tryz.zeroValue235
 t222 := Tryz.underlying233
 a222 := Tryz.isAgg233
 z222 := Tryz.sizeOf233
 v222 := Tryz.zeroValue233
 t228 := Tryz.underlying254
 a228 := Tryz.isAgg254
 z228 := Tryz.sizeOf254
 v228 := Tryz.zeroValue254
 t229 := Tryz.underlying255
 a229 := Tryz.isAgg255
 z229 := Tryz.sizeOf255
 v229 := Tryz.zeroValue255 }
open Go.Sort Go.RowKit in
theorem Tryz.slices_Sort_int (blk off cap : Nat) (zs : List Int) (w : World) (hH : Holds (Value.int .i64) w blk off zs.toArray) (hblk : blk < w.heap.size) (hsz : zs.length < 4611686018427387904) :
 Calls Tryz.prog 59 #[.slice (some ⟨blk, off, none⟩) zs.length cap] w fun e w' =>
  e = .returned (.tuple #[]) ∧ ∃ n os, w' = grow (putRow (Value.int .i64) (Sort.ahead w n) blk off (zs.mergeSort fun x y => decide (x ≤ y)).toArray) os := Any.slices_Sort_int Tryz.lays189 blk off cap zs w hH hblk hsz
def Tryz.lays190_ren : Go.Shelf.Ren := ⟨fun | 190 => 183 | 125 => 107 | 258 => 210 | 128 => 157 | 129 => 158 | 302 => 224 | 303 => 225 | 304 => 226 | 305 => 227 | 306 => 228 | 307 => 229 | 308 => 230 | 309 => 231 | 310 => 232 | 333 => 240 | 329 => 192 | 330 => 193 | 334 => 241 | 335 => 242 | 336 => 243 | 344 => 256 | n => n, fun | 31 => 27 | 9 => 9 | 3 => 3 | 46 => 132 | 0 => 0 | 51 => 144 | 53 => 146 | 4 => 4 | 183 => 204 | 182 => 203 | 131 => 186 | 5 => 5 | 218 => 235 | 222 => 233 | 228 => 254 | 229 => 255 | n => n, fun | n => n⟩
theorem Tryz.lays190 : Go.Proofs.Lays.n190 Tryz.prog Tryz.lays190_ren := {
 mixed := by kernel_rfl
 f125 := Tryz.func107.trans (congrArg some (by kernel_rfl))
 f128 := Tryz.func157.trans (congrArg some (by kernel_rfl))
 f129 := Tryz.func158.trans (congrArg some (by kernel_rfl))
 f190 := Tryz.func183.trans (congrArg some (by kernel_rfl))
 f258 := Tryz.func210.trans (congrArg some (by kernel_rfl))
 f302 := Tryz.func224.trans (congrArg some (by kernel_rfl))
 f303 := Tryz.func225.trans (congrArg some (by kernel_rfl))
 f304 := Tryz.func226.trans (congrArg some (by kernel_rfl))
 f305 := Tryz.func227.trans (congrArg some (by kernel_rfl))
 f306 := Tryz.func228.trans (congrArg some (by kernel_rfl))
 f307 := Tryz.func229.trans (congrArg some (by kernel_rfl))
 f308 := Tryz.func230.trans (congrArg some (by kernel_rfl))
 f309 := Tryz.func231.trans (congrArg some (by kernel_rfl))
 f310 := Tryz.func232.trans (congrArg some (by kernel_rfl))
 f329 := Tryz.func192.trans (congrArg some (by kernel_rfl))
 f330 := Tryz.func193.trans (congrArg some (by kernel_rfl))
 f333 := Tryz.func240.trans (congrArg some (by kernel_rfl))
 f334 := Tryz.func241.trans (congrArg some (by kernel_rfl))
 f335 := Tryz.func242.trans (congrArg some (by kernel_rfl))
 f336 := Tryz.func243.trans (congrArg some (by kernel_rfl))
 f344 := Tryz.func256.trans (congrArg some (by kernel_rfl))
 t0 := Tryz.underlying0
 a0 := Tryz.isAgg0
 z0 := Tryz.sizeOf0
 v0 := Tryz.zeroValue0
 t3 := Tryz.underlying3
 a3 := Tryz.isAgg3
 z3 := Tryz.sizeOf3
 v3 := Tryz.zeroValue3
 t4 := Tryz.underlying4
 a4 := Tryz.isAgg4
 z4 := Tryz.sizeOf4
 v4 := Tryz.zeroValue4
 t5 := Tryz.underlying5
 a5 := Tryz.isAgg5
 z5 := Tryz.sizeOf5
 v5 := Tryz.zeroValue5
 t9 := Tryz.underlying9
 a9 := Tryz.isAgg9
 z9 := Tryz.sizeOf9
 v9 := Tryz.zeroValue9
 t31 := Tryz.underlying27
 a31 := Tryz.isAgg27
 z31 := Tryz.sizeOf27
 v31 := Tryz.zeroValue27
 t46 := Tryz.underlying132
 a46 := Tryz.isAgg132
 z46 := Tryz.sizeOf132
 v46 := Tryz.zeroValue132
 t51 := Tryz.underlying144
 a51 := Tryz.isAgg144
 z51 := Tryz.sizeOf144
 v51 := Tryz.zeroValue144
 t53 := Tryz.underlying146
 a53 := Tryz.isAgg146
 z53 := Tryz.sizeOf146
 v53 := Tryz.zeroValue146
 t131 := Tryz.underlying186
 a131 := Tryz.isAgg186
 z131 := Tryz.sizeOf186
 v131 := Tryz.zeroValue186
 t182 := Tryz.underlying203
 a182 := Tryz.isAgg203
 z182 := Tryz.sizeOf203
 v182 := Tryz.zeroValue203
 t183 := Tryz.underlying204
 a183 := Tryz.isAgg204
 z183 := Tryz.sizeOf204
 v183 := Tryz.zeroValue204
 t218 := Tryz.underlying235
 a218 := Tryz.isAgg235
 z218 := Tryz.sizeOf235
 v218 := Tryz.zeroValue235
 t222 := Tryz.underlying233
 a222 := Tryz.isAgg233
 z222 := Tryz.sizeOf233
 v222 := Tryz.zeroValue233
 t228 := Tryz.underlying254
 a228 := Tryz.isAgg254
 z228 := Tryz.sizeOf254
 v228 := Tryz.zeroValue254
 t229 := Tryz.underlying255
 a229 := Tryz.isAgg255
 z229 := Tryz.sizeOf255
 v229 := Tryz.zeroValue255 }
open Go.Sort Go.RowKit in
theorem Tryz.slices_Sort_string (blk off cap : Nat) (ss : List (List UInt8)) (w : World) (hH : Holds encStr w blk off ss.toArray) (hblk : blk < w.heap.size) (hsz : ss.length < 4611686018427387904) :
 Calls Tryz.prog 183 #[.slice (some ⟨blk, off, none⟩) ss.length cap] w fun e w' =>
  e = .returned (.tuple #[]) ∧ ∃ n os, w' = grow (putRow encStr (Sort.ahead w n) blk off (ss.mergeSort fun x y => decide (x ≤ y)).toArray) os := Any.slices_Sort_string Tryz.lays190 blk off cap ss w hH hblk hsz
def Tryz.lays99_ren : Go.Shelf.Ren := ⟨fun | 99 => 87 | 206 => 131 | n => n, fun | 9 => 9 | 4 => 4 | 3 => 3 | n => n, fun | n => n⟩
theorem Tryz.lays99 : Go.Proofs.Lays.n99 Tryz.prog Tryz.lays99_ren := {
 mixed := by kernel_rfl
 f99 := Tryz.func87.trans (congrArg some (by kernel_rfl))
 f206 := Tryz.func131.trans (congrArg some (by kernel_rfl))
 t3 := Tryz.underlying3
 a3 := Tryz.isAgg3
 z3 := Tryz.sizeOf3
 v3 := Tryz.zeroValue3
 t4 := Tryz.underlying4
 a4 := Tryz.isAgg4
 z4 := Tryz.sizeOf4
 v4 := Tryz.zeroValue4
 t9 := Tryz.underlying9
 a9 := Tryz.isAgg9
 z9 := Tryz.sizeOf9
 v9 := Tryz.zeroValue9 }
open Go.RowKit Go.Lib in
theorem Tryz.strings_HasPrefix (s p : ByteArray) (w : World) :
 Calls Tryz.prog 87 #[.string s, .string p] w fun e w' => e = .returned (.bool (Lib.hasPrefix s.data.toList p.data.toList)) ∧ w' = w := Any.strings_HasPrefix Tryz.lays99 s p w
def Tryz.lays100_ren : Go.Shelf.Ren := ⟨fun | 100 => 260 | 207 => 268 | n => n, fun | 9 => 9 | 4 => 4 | 3 => 3 | n => n, fun | n => n⟩
theorem Tryz.lays100 : Go.Proofs.Lays.n100 Tryz.prog Tryz.lays100_ren := {
 mixed := by kernel_rfl
 f100 := Tryz.func260.trans (congrArg some (by kernel_rfl))
 f207 := Tryz.func268.trans (congrArg some (by kernel_rfl))
 t3 := Tryz.underlying3
 a3 := Tryz.isAgg3
 z3 := Tryz.sizeOf3
 v3 := Tryz.zeroValue3
 t4 := Tryz.underlying4
 a4 := Tryz.isAgg4
 z4 := Tryz.sizeOf4
 v4 := Tryz.zeroValue4
 t9 := Tryz.underlying9
 a9 := Tryz.isAgg9
 z9 := Tryz.sizeOf9
 v9 := Tryz.zeroValue9 }
open Go.RowKit Go.Lib in
theorem Tryz.strings_HasSuffix (s p : ByteArray) (w : World) (hs : s.size ≤ 9223372036854775807) :
 Calls Tryz.prog 260 #[.string s, .string p] w fun e w' => e = .returned (.bool (Lib.hasSuffix s.data.toList p.data.toList)) ∧ w' = w := Any.strings_HasSuffix Tryz.lays100 s p w hs
def Tryz.lays146_ren : Go.Shelf.Ren := ⟨fun | 146 => 251 | 221 => 261 | 268 => 269 | 138 => 270 | 143 => 217 | 195 => 275 | 197 => 262 | 218 => 276 | 219 => 236 | 260 => 271 | 217 => 127 | 225 => 246 | 224 => 247 | 267 => 248 | 266 => 173 | 314 => 257 | n => n, fun | 9 => 9 | 31 => 27 | 3 => 3 | 4 => 4 | 0 => 0 | 105 => 287 | 21 => 21 | 5 => 5 | 46 => 132 | 119 => 299 | 139 => 302 | 138 => 301 | 146 => 179 | 51 => 144 | n => n, fun | 1 => 0 | 3 => 7 | 4 => 8 | n => n⟩
theorem Tryz.lays146 : Go.Proofs.Lays.n146 Tryz.prog Tryz.lays146_ren := {
 mixed := by kernel_rfl
 f138 := Tryz.func270.trans (congrArg some (by kernel_rfl))
 f143 := Tryz.func217.trans (congrArg some (by kernel_rfl))
 f146 := Tryz.func251.trans (congrArg some (by kernel_rfl))
 f195 := Tryz.func275.trans (congrArg some (by kernel_rfl))
 f197 := Tryz.func262.trans (congrArg some (by kernel_rfl))
 f217 := Tryz.func127.trans (congrArg some (by kernel_rfl))
 f218 := Tryz.func276.trans (congrArg some (by kernel_rfl))
 f219 := Tryz.func236.trans (congrArg some (by kernel_rfl))
 f221 := Tryz.func261.trans (congrArg some (by kernel_rfl))
 f224 := Tryz.func247.trans (congrArg some (by kernel_rfl))
 f225 := Tryz.func246.trans (congrArg some (by kernel_rfl))
 f260 := Tryz.func271.trans (congrArg some (by kernel_rfl))
 f266 := Tryz.func173.trans (congrArg some (by kernel_rfl))
 f267 := Tryz.func248.trans (congrArg some (by kernel_rfl))
 f268 := Tryz.func269.trans (congrArg some (by kernel_rfl))
 f314 := Tryz.func257.trans (congrArg some (by kernel_rfl))
 t0 := Tryz.underlying0
 a0 := Tryz.isAgg0
 z0 := Tryz.sizeOf0
 v0 := Tryz.zeroValue0
 t3 := Tryz.underlying3
 a3 := Tryz.isAgg3
 z3 := Tryz.sizeOf3
 v3 := Tryz.zeroValue3
 t4 := Tryz.underlying4
 a4 := Tryz.isAgg4
 z4 := Tryz.sizeOf4
 v4 := Tryz.zeroValue4
 t5 := Tryz.underlying5
 a5 := Tryz.isAgg5
 z5 := Tryz.sizeOf5
 v5 := Tryz.zeroValue5
 t9 := Tryz.underlying9
 a9 := Tryz.isAgg9
 z9 := Tryz.sizeOf9
 v9 := Tryz.zeroValue9
 t21 := Tryz.underlying21
 a21 := Tryz.isAgg21
 z21 := Tryz.sizeOf21
 v21 := Tryz.zeroValue21
 t31 := Tryz.underlying27
 a31 := Tryz.isAgg27
 z31 := Tryz.sizeOf27
 v31 := Tryz.zeroValue27
 t46 := Tryz.underlying132
 a46 := Tryz.isAgg132
 z46 := Tryz.sizeOf132
 v46 := Tryz.zeroValue132
 t51 := Tryz.underlying144
 a51 := Tryz.isAgg144
 z51 := Tryz.sizeOf144
 v51 := Tryz.zeroValue144
 t105 := Tryz.underlying287
 a105 := Tryz.isAgg287
 z105 := Tryz.sizeOf287
 v105 := Tryz.zeroValue287
 t119 := Tryz.underlying299
 a119 := Tryz.isAgg299
 z119 := Tryz.sizeOf299
 t138 := Tryz.underlying301
 a138 := Tryz.isAgg301
 z138 := Tryz.sizeOf301
 v138 := Tryz.zeroValue301
 t139 := Tryz.underlying302
 a139 := Tryz.isAgg302
 z139 := Tryz.sizeOf302
 v139 := Tryz.zeroValue302
 t146 := Tryz.underlying179
 a146 := Tryz.isAgg179
 z146 := Tryz.sizeOf179
 v146 := Tryz.zeroValue179
 g1 := by kernel_rfl
 g3 := by kernel_rfl
 g4 := by kernel_rfl }
open Go.RowKit Go.Lib in
theorem Tryz.strings_Split (s sep : ByteArray) (m : Int) (w : World) (hs : s.size < 4294967281) (hm : w.cell? ⟨0, 0, none⟩ = some (.int .i64 m)) (h1 : 1 ≤ sep.size) :
 Calls Tryz.prog 251 #[.string s, .string sep] w fun e w' =>
  e = .returned (.slice (some ⟨w.heap.size, 0, none⟩) (Lib.countB s sep + 1) (Lib.countB s sep + 1)) ∧ w' = w.alloc (.cells ((Lib.splitB sep 0 (Lib.countB s sep) s).map Value.string).toArray 9) := Any.strings_Split Tryz.lays146 (by kernel_rfl) s sep m w hs hm h1
def Tryz.lays151_ren : Go.Shelf.Ren := ⟨fun | 151 => 259 | 152 => 267 | 137 => 84 | 119 => 274 | 224 => 247 | 225 => 246 | 217 => 127 | 266 => 173 | n => n, fun | 9 => 9 | 21 => 21 | 4 => 4 | 3 => 3 | 5 => 5 | 0 => 0 | 46 => 132 | n => n, fun | n => n⟩
theorem Tryz.lays151 : Go.Proofs.Lays.n151 Tryz.prog Tryz.lays151_ren := {
 mixed := by kernel_rfl
 f119 := Tryz.func274.trans (congrArg some (by kernel_rfl))
 f137 := Tryz.func84.trans (congrArg some (by kernel_rfl))
 f151 := Tryz.func259.trans (congrArg some (by kernel_rfl))
 f152 := Tryz.func267.trans (congrArg some (by kernel_rfl))
 f217 := Tryz.func127.trans (congrArg some (by kernel_rfl))
 f224 := Tryz.func247.trans (congrArg some (by kernel_rfl))
 f225 := Tryz.func246.trans (congrArg some (by kernel_rfl))
 f266 := Tryz.func173.trans (congrArg some (by kernel_rfl))
 t0 := Tryz.underlying0
 a0 := Tryz.isAgg0
 z0 := Tryz.sizeOf0
 v0 := Tryz.zeroValue0
 t3 := Tryz.underlying3
 a3 := Tryz.isAgg3
 z3 := Tryz.sizeOf3
 v3 := Tryz.zeroValue3
 t4 := Tryz.underlying4
 a4 := Tryz.isAgg4
 z4 := Tryz.sizeOf4
 v4 := Tryz.zeroValue4
 t5 := Tryz.underlying5
 a5 := Tryz.isAgg5
 z5 := Tryz.sizeOf5
 v5 := Tryz.zeroValue5
 t9 := Tryz.underlying9
 a9 := Tryz.isAgg9
 z9 := Tryz.sizeOf9
 v9 := Tryz.zeroValue9
 t21 := Tryz.underlying21
 a21 := Tryz.isAgg21
 z21 := Tryz.sizeOf21
 v21 := Tryz.zeroValue21
 t46 := Tryz.underlying132
 a46 := Tryz.isAgg132
 z46 := Tryz.sizeOf132
 v46 := Tryz.zeroValue132 }
open Go.RowKit Go.Lib in
theorem Tryz.strings_ContainsRune_ascii (s : ByteArray) (r : Int) (w : World) (h0 : 0 ≤ r) (h1 : r < 128) :
 Calls Tryz.prog 259 #[.string s, .int .i32 r] w fun e w' => e = .returned (.bool (decide (0 ≤ Lib.indexByte s.data.toList r.toNat.toUInt8))) ∧ w' = w := Any.strings_ContainsRune_ascii Tryz.lays151 s r w h0 h1
def Tryz.lays105_ren : Go.Shelf.Ren := ⟨fun | 105 => 46 | 212 => 86 | 99 => 87 | 165 => 88 | 166 => 89 | 170 => 90 | 169 => 91 | 263 => 129 | 264 => 130 | 206 => 131 | 240 => 132 | 241 => 133 | 276 => 178 | 277 => 179 | n => n, fun | 9 => 9 | 3 => 3 | 4 => 4 | 20 => 20 | 0 => 0 | 46 => 132 | 109 => 133 | 5 => 5 | 72 => 138 | 76 => 141 | 51 => 144 | 146 => 179 | 53 => 146 | 148 => 181 | 70 => 136 | 37 => 22 | 75 => 140 | 127 => 183 | 164 => 224 | 80 => 143 | n => n, fun | n => n⟩
theorem Tryz.lays105 : Go.Proofs.Lays.n105 Tryz.prog Tryz.lays105_ren := {
 mixed := by kernel_rfl
 f99 := Tryz.func87.trans (congrArg some (by kernel_rfl))
 f105 := Tryz.func46.trans (congrArg some (by kernel_rfl))
 f165 := Tryz.func88.trans (congrArg some (by kernel_rfl))
 f166 := Tryz.func89.trans (congrArg some (by kernel_rfl))
 f169 := Tryz.func91.trans (congrArg some (by kernel_rfl))
 f170 := Tryz.func90.trans (congrArg some (by kernel_rfl))
 f206 := Tryz.func131.trans (congrArg some (by kernel_rfl))
 f212 := Tryz.func86.trans (congrArg some (by kernel_rfl))
 f240 := Tryz.func132.trans (congrArg some (by kernel_rfl))
 f241 := Tryz.func133.trans (congrArg some (by kernel_rfl))
 f263 := Tryz.func129.trans (congrArg some (by kernel_rfl))
 f264 := Tryz.func130.trans (congrArg some (by kernel_rfl))
 f276 := Tryz.func178.trans (congrArg some (by kernel_rfl))
 f277 := Tryz.func179.trans (congrArg some (by kernel_rfl))
 t0 := Tryz.underlying0
 a0 := Tryz.isAgg0
 z0 := Tryz.sizeOf0
 v0 := Tryz.zeroValue0
 t3 := Tryz.underlying3
 a3 := Tryz.isAgg3
 z3 := Tryz.sizeOf3
 v3 := Tryz.zeroValue3
 t4 := Tryz.underlying4
 a4 := Tryz.isAgg4
 z4 := Tryz.sizeOf4
 v4 := Tryz.zeroValue4
 t5 := Tryz.underlying5
 a5 := Tryz.isAgg5
 z5 := Tryz.sizeOf5
 v5 := Tryz.zeroValue5
 t9 := Tryz.underlying9
 a9 := Tryz.isAgg9
 z9 := Tryz.sizeOf9
 v9 := Tryz.zeroValue9
 t20 := Tryz.underlying20
 a20 := Tryz.isAgg20
 z20 := Tryz.sizeOf20
 v20 := Tryz.zeroValue20
 t37 := Tryz.underlying22
 a37 := Tryz.isAgg22
 z37 := Tryz.sizeOf22
 v37 := Tryz.zeroValue22
 t46 := Tryz.underlying132
 a46 := Tryz.isAgg132
 z46 := Tryz.sizeOf132
 v46 := Tryz.zeroValue132
 t51 := Tryz.underlying144
 a51 := Tryz.isAgg144
 z51 := Tryz.sizeOf144
 v51 := Tryz.zeroValue144
 t53 := Tryz.underlying146
 a53 := Tryz.isAgg146
 z53 := Tryz.sizeOf146
 v53 := Tryz.zeroValue146
 t70 := Tryz.underlying136
 a70 := Tryz.isAgg136
 z70 := Tryz.sizeOf136
 v70 := Tryz.zeroValue136
 t72 := Tryz.underlying138
 a72 := Tryz.isAgg138
 z72 := Tryz.sizeOf138
 v72 := Tryz.zeroValue138
 t75 := Tryz.underlying140
 a75 := Tryz.isAgg140
 z75 := Tryz.sizeOf140
 v75 := Tryz.zeroValue140
 t76 := Tryz.underlying141
 a76 := Tryz.isAgg141
 z76 := Tryz.sizeOf141
 v76 := Tryz.zeroValue141
 t109 := Tryz.underlying133
 a109 := Tryz.isAgg133
 z109 := Tryz.sizeOf133
 v109 := Tryz.zeroValue133
 t127 := Tryz.underlying183
 a127 := Tryz.isAgg183
 z127 := Tryz.sizeOf183
 v127 := Tryz.zeroValue183
 t146 := Tryz.underlying179
 a146 := Tryz.isAgg179
 z146 := Tryz.sizeOf179
 v146 := Tryz.zeroValue179
 t148 := Tryz.underlying181
 a148 := Tryz.isAgg181
 z148 := Tryz.sizeOf181
 v148 := Tryz.zeroValue181
 t164 := Tryz.underlying224
 a164 := Tryz.isAgg224
 z164 := Tryz.sizeOf224
 v164 := Tryz.zeroValue224 }
theorem Tryz.Builder_Extra_105 : Builder.Extra Tryz.prog Tryz.lays105_ren := {
 sizeBuilder := by kernel_rfl
 liesBuilder := by kernel_rfl
 t5 := Tryz.underlying5
 a5 := Tryz.isAgg5
 z5 := Tryz.sizeOf5
 v5 := Tryz.zeroValue5
 infoByte := by kernel_rfl
 cellsByte := by kernel_rfl
 sizeByte := by kernel_rfl
 neB5 := by decide }
open Go.RowKit Go.Lib in
theorem Tryz.strings_Repeat (s : ByteArray) (c : Nat) (w : World) (hc : c ≤ 9223372036854775807) (hlen : s.size * c ≤ 140737488355328) :
 Calls Tryz.prog 46 #[.string s, .int .i64 c] w fun e w' => e = .returned (.string ⟨(Lib.repeatL s.data.toList c).toArray⟩) ∧ Below w.heap.size w w' := Any.strings_Repeat Tryz.lays105 Tryz.Builder_Extra_105 s c w hc hlen
open Go.RowKit Go.Sort in
theorem Tryz.slices_Sort_string_none (p : Option Addr) (cap : Nat) (w : World) :
 Calls Tryz.prog 183 #[.slice p 0 cap] w fun e w' => e = .returned (.tuple #[]) ∧ w' = w := Any.slices_Sort_string_none Tryz.lays190 p cap w
open Go.RowKit Go.Sort in
theorem Tryz.slices_Sort_int_none (p : Option Addr) (cap : Nat) (w : World) :
 Calls Tryz.prog 59 #[.slice p 0 cap] w fun e w' => e = .returned (.tuple #[]) ∧ w' = w := Any.slices_Sort_int_none Tryz.lays189 p cap w
end Go.Proofs
