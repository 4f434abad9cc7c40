/- Lemmas for TopWire: Shelf, PathWalks. -/
import Derived.Shelf.Strings.Builder1
import Derived.Shelf.Small.Utf8
import Derived.Shelf.Small.Bits
import Derived.Shelf.Small.Strs
import Derived.Shelf.Strings.BuilderF
import Derived.Shelf.Strings.BuilderK
import Derived.Shelf.Strconv.Itoa0
import Derived.Shelf.Strconv.Itoa1
import Derived.Shelf.LaysM
import Derived.Shelf.Strconv.Itoa2
import Derived.Shelf.Strconv.Itoa3
import Derived.Shelf.Strconv.Itoa4
import Derived.Shelf.Strconv.ParseIntEmpty
import Derived.Shelf.Strconv.Clone
import Derived.Shelf.Strconv.SyntaxError
import Derived.Shelf.LaysC
import Derived.Shelf.Strconv.ToError
import Derived.Shelf.Strconv.Lower
import Derived.Shelf.Strconv.ParseUint10
import Derived.Shelf.Strconv.ParseUint10Empty
import Derived.Shelf.Strconv.ParseUint10Any
import Derived.Shelf.Strconv.ParseInt10
import Derived.Shelf.Strconv.RangeError
import Derived.Shelf.Strconv.ToErrorRange
import Derived.Shelf.Strconv.ParseUintEmpty
import Derived.Shelf.Strconv.ParseUint10b64
import Derived.Shelf.Strconv.ParseUint10b32
import Derived.Shelf.Strconv.ParseUint10b16
import Derived.Shelf.Strconv.ParseUint10b8
import Derived.Shelf.Strconv.ParseUint10At
import Derived.Shelf.Strconv.ParseInt10At64
import Derived.Shelf.Strconv.ParseInt10At32
import Derived.Shelf.Strconv.ParseInt10At16
import Derived.Shelf.Strconv.ParseInt10At8
import Derived.Shelf.Strconv.ParseInt10All
import Derived.Shelf.Strconv.ParseIntPublic10
import Derived.Shelf.Strconv.ErrVarParseInt
import Derived.Shelf.Strings.Search1
import Derived.Shelf.Strings.Search2
import Derived.Shelf.Strings.Search3
import Derived.Shelf.Strings.Count
import Derived.Shelf.Strings.Shaped
import Derived.Shelf.GgClosure.StringsIndexFunc
import Derived.Ground.GgwProg
import Derived.Shelf.GgClosure.StringsIndexFuncTop
import Derived.Shelf.GgClosure.StringsRunes
import Derived.Shelf.Strings.Prefix
import Derived.Shelf.Strings.Runes
import Derived.Shelf.Strings.AsciiSet
import Derived.Shelf.Unicode.DecodeSlow
import Derived.Shelf.Unicode.DecodeAny
import Derived.Shelf.Unicode.DecodeLast
import Derived.Shelf.Strings.FuncGrows
import Derived.Shelf.Strings.BuilderCap
import Derived.Test.YtlbipokkdiiaiaaGreatDoorProg
import Derived.Test.YtlbipokkdiiaiaaGreatDoorT14
import Derived.Test.YtlbipokkdiiaiaaGreatDoorChecked
/- The shelf's contracts at this dump, in plain words (written by the kit's lay-plain.mjs, cut to what is used). -/
namespace Go.Proofs
open Go.Shelf
def Tryz.lays169_ren : Go.Shelf.Ren := ⟨fun | 169 => 104 | n => n, fun | 70 => 213 | 9 => 9 | 0 => 0 | 72 => 215 | 37 => 49 | 127 => 274 | 3 => 3 | 5 => 5 | n => n, fun | n => n⟩
theorem Tryz.lays169 : Go.Proofs.Lays.n169 Tryz.prog Tryz.lays169_ren := {
  mixed := by kernel_rfl
  f169 := Tryz.func104.trans (congrArg some (by kernel_rfl))
  t0 := Tryz.underlying0
  a0 := Tryz.isAgg0
  z0 := Tryz.sizeOf0
  v0 := Tryz.zeroValue0
  t3 := Tryz.underlying3
  a3 := Tryz.isAgg3
  z3 := Tryz.sizeOf3
  v3 := Tryz.zeroValue3
  t9 := Tryz.underlying9
  a9 := Tryz.isAgg9
  z9 := Tryz.sizeOf9
  v9 := Tryz.zeroValue9
  t37 := Tryz.underlying49
  a37 := Tryz.isAgg49
  z37 := Tryz.sizeOf49
  v37 := Tryz.zeroValue49
  t70 := Tryz.underlying213
  a70 := Tryz.isAgg213
  z70 := Tryz.sizeOf213
  v70 := Tryz.zeroValue213
  t72 := Tryz.underlying215
  a72 := Tryz.isAgg215
  z72 := Tryz.sizeOf215
  v72 := Tryz.zeroValue215
  t127 := Tryz.underlying274
  a127 := Tryz.isAgg274
  z127 := Tryz.sizeOf274
  v127 := Tryz.zeroValue274 }
theorem Tryz.Builder_Extra_169 : Builder.Extra Tryz.prog Tryz.lays169_ren := {
  sizeBuilder := by kernel_rfl
  liesBuilder := by kernel_rfl
  t5 := Tryz.underlying5
  a5 := Tryz.isAgg5
  z5 := Tryz.sizeOf5
  v5 := Tryz.zeroValue5
  infoByte := by kernel_rfl
  cellsByte := by kernel_rfl
  sizeByte := by kernel_rfl
  neB5 := by decide }
def Tryz.lays137_ren : Go.Shelf.Ren := ⟨fun | 137 => 187 | 217 => 226 | 266 => 287 | n => n, fun | 9 => 9 | 5 => 5 | 3 => 3 | n => n, fun | n => n⟩
theorem Tryz.lays137 : Go.Proofs.Lays.n137 Tryz.prog Tryz.lays137_ren := {
  mixed := by kernel_rfl
  f137 := Tryz.func187.trans (congrArg some (by kernel_rfl))
  f217 := Tryz.func226.trans (congrArg some (by kernel_rfl))
  f266 := Tryz.func287.trans (congrArg some (by kernel_rfl))
  t3 := Tryz.underlying3
  a3 := Tryz.isAgg3
  z3 := Tryz.sizeOf3
  v3 := Tryz.zeroValue3
  t5 := Tryz.underlying5
  a5 := Tryz.isAgg5
  z5 := Tryz.sizeOf5
  v5 := Tryz.zeroValue5
  t9 := Tryz.underlying9
  a9 := Tryz.isAgg9
  z9 := Tryz.sizeOf9
  v9 := Tryz.zeroValue9 }
open Go.RowKit in
theorem Tryz.strings_IndexByte (s : ByteArray) (c : Int) (w : World) :
    Calls Tryz.prog 187 #[.string s, .int .u8 c] w fun e w' => e = .returned (.int .i64 (Lib.indexByte s.data.toList c.toNat.toUInt8)) ∧ w' = w := Any.strings_IndexByte Tryz.lays137 s c w
open Go.RowKit in
theorem Tryz.Builder_String_any_k (B b : Nat) (l : List UInt8) (w : World) (h : Lib.IsBuilderF 215 5 B b (Lib.byteCells l) w) (hBw : B ≤ w.heap.size) :
    Calls Tryz.prog 104 #[.pointer (some ⟨b, 0, none⟩)] w fun e w' => e = .returned (.string ⟨l.toArray⟩) ∧ (Lib.IsBuilderF 215 5 B b (Lib.byteCells l) w' ∧ Below B w w' ∧ Lib.OthersKept 5 (some b) w w') := Any.Builder_String_any_k Tryz.lays169 Tryz.Builder_Extra_169 B b l w h hBw
def Tryz.laysM171_ren : Go.Shelf.Ren := ⟨fun | 171 => 102 | 243 => 152 | 246 => 172 | 283 => 212 | 284 => 213 | 285 => 214 | 286 => 215 | 129 => 237 | 317 => 269 | 318 => 270 | 319 => 271 | 320 => 272 | 337 => 307 | 338 => 308 | n => n, fun | 3 => 3 | 9 => 9 | 2 => 2 | 4 => 4 | 171 => 342 | 0 => 0 | 53 => 29 | 37 => 49 | 5 => 5 | 173 => 345 | 212 => 390 | 51 => 250 | 20 => 20 | 213 => 391 | 46 => 184 | 232 => 30 | 233 => 440 | n => n, fun | 17 => 1 | 18 => 6 | 19 => 7 | n => n⟩
theorem Tryz.laysM171 : Go.Proofs.LaysM.n171 Tryz.prog Tryz.laysM171_ren := {
  mixed := by kernel_rfl
  f129 := Tryz.func237.trans (congrArg some (by kernel_rfl))
  f171 := Tryz.func102.trans (congrArg some (by kernel_rfl))
  f243 := Tryz.func152.trans (congrArg some (by kernel_rfl))
  f246 := Tryz.func172.trans (congrArg some (by kernel_rfl))
  f283 := Tryz.func212.trans (congrArg some (by kernel_rfl))
  f284 := Tryz.func213.trans (congrArg some (by kernel_rfl))
  f285 := Tryz.func214.trans (congrArg some (by kernel_rfl))
  f286 := Tryz.func215.trans (congrArg some (by kernel_rfl))
  f317 := Tryz.func269.trans (congrArg some (by kernel_rfl))
  f318 := Tryz.func270.trans (congrArg some (by kernel_rfl))
  f319 := Tryz.func271.trans (congrArg some (by kernel_rfl))
  f320 := Tryz.func272.trans (congrArg some (by kernel_rfl))
  f337 := Tryz.func307.trans (congrArg some (by kernel_rfl))
  f338 := Tryz.func308.trans (congrArg some (by kernel_rfl))
  t0 := Tryz.underlying0
  a0 := Tryz.isAgg0
  z0 := Tryz.sizeOf0
  v0 := Tryz.zeroValue0
  t2 := Tryz.underlying2
  a2 := Tryz.isAgg2
  z2 := Tryz.sizeOf2
  v2 := Tryz.zeroValue2
  t3 := Tryz.underlying3
  a3 := Tryz.isAgg3
  z3 := Tryz.sizeOf3
  v3 := Tryz.zeroValue3
  t4 := Tryz.underlying4
  a4 := Tryz.isAgg4
  z4 := Tryz.sizeOf4
  v4 := Tryz.zeroValue4
  t5 := Tryz.underlying5
  a5 := Tryz.isAgg5
  z5 := Tryz.sizeOf5
  v5 := Tryz.zeroValue5
  t9 := Tryz.underlying9
  a9 := Tryz.isAgg9
  z9 := Tryz.sizeOf9
  v9 := Tryz.zeroValue9
  t20 := Tryz.underlying20
  a20 := Tryz.isAgg20
  z20 := Tryz.sizeOf20
  v20 := Tryz.zeroValue20
  t37 := Tryz.underlying49
  a37 := Tryz.isAgg49
  z37 := Tryz.sizeOf49
  v37 := Tryz.zeroValue49
  t46 := Tryz.underlying184
  a46 := Tryz.isAgg184
  z46 := Tryz.sizeOf184
  v46 := Tryz.zeroValue184
  t51 := Tryz.underlying250
  a51 := Tryz.isAgg250
  z51 := Tryz.sizeOf250
  v51 := Tryz.zeroValue250
  t53 := Tryz.underlying29
  a53 := Tryz.isAgg29
  z53 := Tryz.sizeOf29
  v53 := Tryz.zeroValue29
  t171 := Tryz.underlying342
  a171 := Tryz.isAgg342
  z171 := Tryz.sizeOf342
  v171 := Tryz.zeroValue342
  t173 := Tryz.underlying345
  a173 := Tryz.isAgg345
  z173 := Tryz.sizeOf345
  v173 := Tryz.zeroValue345
  t212 := Tryz.underlying390
  a212 := Tryz.isAgg390
  z212 := Tryz.sizeOf390
  v212 := Tryz.zeroValue390
  t213 := Tryz.underlying391
  a213 := Tryz.isAgg391
  z213 := Tryz.sizeOf391
  t232 := Tryz.underlying30
  a232 := Tryz.isAgg30
  z232 := Tryz.sizeOf30
  v232 := Tryz.zeroValue30
  t233 := Tryz.underlying440
  a233 := Tryz.isAgg440
  z233 := Tryz.sizeOf440
  v233 := Tryz.zeroValue440
  g17 := by kernel_rfl
  g18 := by kernel_rfl
  g19 := by kernel_rfl
  i0 := by kernel_rfl
  i2 := by kernel_rfl
  i3 := by kernel_rfl
  i4 := by kernel_rfl
  i5 := by kernel_rfl
  i9 := by kernel_rfl
  i20 := by kernel_rfl
  i37 := by kernel_rfl
  i46 := by kernel_rfl
  i51 := by kernel_rfl
  i53 := by kernel_rfl
  i171 := by kernel_rfl
  i173 := by kernel_rfl
  i212 := by kernel_rfl
  i232 := by kernel_rfl
  i233 := by kernel_rfl
  m17 := by kernel_rfl
  m18 := by kernel_rfl
  m19 := by kernel_rfl }
open Go.RowKit Go.Sort Go.Lib in
theorem Tryz.strconv_Itoa (n : Int) (h0 : -9223372036854775808 ≤ n) (h1 : n ≤ 9223372036854775807) (w : World) (htab : Lib.TabIs Tryz.prog w "internal/strconv.uint64pow10" .u64 Lib.pow10Tab) :
    Calls Tryz.prog 102 #[.int .i64 n] w fun e w' => e = .returned (.string ⟨(Lib.itoa n).toArray⟩) ∧ ∃ k os, w' = grow (w.drewN k) os := Any.strconv_Itoa Tryz.laysM171 n h0 h1 w htab
def Tryz.laysM173_ren : Go.Shelf.Ren := ⟨fun | 173 => 121 | 246 => 172 | 283 => 212 | 284 => 213 | 285 => 214 | 286 => 215 | 129 => 237 | 317 => 269 | 318 => 270 | 319 => 271 | 320 => 272 | 337 => 307 | 338 => 308 | n => n, fun | 2 => 2 | 3 => 3 | 9 => 9 | 4 => 4 | 171 => 342 | 0 => 0 | 53 => 29 | 37 => 49 | 5 => 5 | 173 => 345 | 212 => 390 | 51 => 250 | 20 => 20 | 213 => 391 | 46 => 184 | 232 => 30 | 233 => 440 | n => n, fun | 17 => 1 | 18 => 6 | 19 => 7 | n => n⟩
theorem Tryz.laysM173 : Go.Proofs.LaysM.n173 Tryz.prog Tryz.laysM173_ren := {
  mixed := by kernel_rfl
  f129 := Tryz.func237.trans (congrArg some (by kernel_rfl))
  f173 := Tryz.func121.trans (congrArg some (by kernel_rfl))
  f246 := Tryz.func172.trans (congrArg some (by kernel_rfl))
  f283 := Tryz.func212.trans (congrArg some (by kernel_rfl))
  f284 := Tryz.func213.trans (congrArg some (by kernel_rfl))
  f285 := Tryz.func214.trans (congrArg some (by kernel_rfl))
  f286 := Tryz.func215.trans (congrArg some (by kernel_rfl))
  f317 := Tryz.func269.trans (congrArg some (by kernel_rfl))
  f318 := Tryz.func270.trans (congrArg some (by kernel_rfl))
  f319 := Tryz.func271.trans (congrArg some (by kernel_rfl))
  f320 := Tryz.func272.trans (congrArg some (by kernel_rfl))
  f337 := Tryz.func307.trans (congrArg some (by kernel_rfl))
  f338 := Tryz.func308.trans (congrArg some (by kernel_rfl))
  t0 := Tryz.underlying0
  a0 := Tryz.isAgg0
  z0 := Tryz.sizeOf0
  v0 := Tryz.zeroValue0
  t2 := Tryz.underlying2
  a2 := Tryz.isAgg2
  z2 := Tryz.sizeOf2
  v2 := Tryz.zeroValue2
  t3 := Tryz.underlying3
  a3 := Tryz.isAgg3
  z3 := Tryz.sizeOf3
  v3 := Tryz.zeroValue3
  t4 := Tryz.underlying4
  a4 := Tryz.isAgg4
  z4 := Tryz.sizeOf4
  v4 := Tryz.zeroValue4
  t5 := Tryz.underlying5
  a5 := Tryz.isAgg5
  z5 := Tryz.sizeOf5
  v5 := Tryz.zeroValue5
  t9 := Tryz.underlying9
  a9 := Tryz.isAgg9
  z9 := Tryz.sizeOf9
  v9 := Tryz.zeroValue9
  t20 := Tryz.underlying20
  a20 := Tryz.isAgg20
  z20 := Tryz.sizeOf20
  v20 := Tryz.zeroValue20
  t37 := Tryz.underlying49
  a37 := Tryz.isAgg49
  z37 := Tryz.sizeOf49
  v37 := Tryz.zeroValue49
  t46 := Tryz.underlying184
  a46 := Tryz.isAgg184
  z46 := Tryz.sizeOf184
  v46 := Tryz.zeroValue184
  t51 := Tryz.underlying250
  a51 := Tryz.isAgg250
  z51 := Tryz.sizeOf250
  v51 := Tryz.zeroValue250
  t53 := Tryz.underlying29
  a53 := Tryz.isAgg29
  z53 := Tryz.sizeOf29
  v53 := Tryz.zeroValue29
  t171 := Tryz.underlying342
  a171 := Tryz.isAgg342
  z171 := Tryz.sizeOf342
  v171 := Tryz.zeroValue342
  t173 := Tryz.underlying345
  a173 := Tryz.isAgg345
  z173 := Tryz.sizeOf345
  v173 := Tryz.zeroValue345
  t212 := Tryz.underlying390
  a212 := Tryz.isAgg390
  z212 := Tryz.sizeOf390
  v212 := Tryz.zeroValue390
  t213 := Tryz.underlying391
  a213 := Tryz.isAgg391
  z213 := Tryz.sizeOf391
  t232 := Tryz.underlying30
  a232 := Tryz.isAgg30
  z232 := Tryz.sizeOf30
  v232 := Tryz.zeroValue30
  t233 := Tryz.underlying440
  a233 := Tryz.isAgg440
  z233 := Tryz.sizeOf440
  v233 := Tryz.zeroValue440
  g17 := by kernel_rfl
  g18 := by kernel_rfl
  g19 := by kernel_rfl
  i0 := by kernel_rfl
  i2 := by kernel_rfl
  i3 := by kernel_rfl
  i4 := by kernel_rfl
  i5 := by kernel_rfl
  i9 := by kernel_rfl
  i20 := by kernel_rfl
  i37 := by kernel_rfl
  i46 := by kernel_rfl
  i51 := by kernel_rfl
  i53 := by kernel_rfl
  i171 := by kernel_rfl
  i173 := by kernel_rfl
  i212 := by kernel_rfl
  i232 := by kernel_rfl
  i233 := by kernel_rfl
  m17 := by kernel_rfl
  m18 := by kernel_rfl
  m19 := by kernel_rfl }
open Go.RowKit Go.Sort Go.Lib in
theorem Tryz.strconv_FormatInt_10 (n : Int) (h0 : -9223372036854775808 ≤ n) (h1 : n ≤ 9223372036854775807) (w : World) (htab : Lib.TabIs Tryz.prog w "internal/strconv.uint64pow10" .u64 Lib.pow10Tab) :
    Calls Tryz.prog 121 #[.int .i64 n, .int .i64 10] w fun e w' => e = .returned (.string ⟨(Lib.itoa n).toArray⟩) ∧ ∃ k os, w' = grow (w.drewN k) os := Any.strconv_FormatInt_10 Tryz.laysM173 n h0 h1 w htab
def Tryz.laysC174_ren : Go.Shelf.Ren := ⟨fun | 174 => 176 | 247 => 217 | 245 => 218 | 287 => 273 | 279 => 274 | 280 => 275 | 281 => 276 | 282 => 277 | 321 => 309 | 322 => 310 | 316 => 311 | 171 => 102 | 205 => 312 | 243 => 152 | 246 => 172 | 283 => 212 | 284 => 213 | 285 => 214 | 286 => 215 | 129 => 237 | 317 => 269 | 318 => 270 | 319 => 271 | 320 => 272 | 337 => 307 | 338 => 308 | n => n, fun | 9 => 9 | 3 => 3 | 2 => 2 | 75 => 217 | 85 => 302 | 4 => 4 | 167 => 393 | 5 => 5 | 53 => 29 | 175 => 394 | 46 => 184 | 168 => 396 | 37 => 49 | 0 => 0 | 210 => 422 | 21 => 21 | 127 => 274 | 145 => 443 | 143 => 441 | 171 => 342 | 173 => 345 | 212 => 390 | 51 => 250 | 20 => 20 | 213 => 391 | 232 => 30 | 233 => 440 | 80 => 192 | n => n, fun | 15 => 4 | 16 => 5 | 17 => 1 | 18 => 6 | 19 => 7 | n => n⟩
theorem Tryz.laysC174 : Go.Proofs.LaysC.n174 Tryz.prog Tryz.laysC174_ren := {
  mixed := by kernel_rfl
  f129 := Tryz.func237.trans (congrArg some (by kernel_rfl))
  f171 := Tryz.func102.trans (congrArg some (by kernel_rfl))
  f174 := Tryz.func176.trans (congrArg some (by kernel_rfl))
  f205 := Tryz.func312.trans (congrArg some (by kernel_rfl))
  f243 := Tryz.func152.trans (congrArg some (by kernel_rfl))
  f245 := Tryz.func218.trans (congrArg some (by kernel_rfl))
  f246 := Tryz.func172.trans (congrArg some (by kernel_rfl))
  f247 := Tryz.func217.trans (congrArg some (by kernel_rfl))
  f279 := Tryz.func274.trans (congrArg some (by kernel_rfl))
  f280 := Tryz.func275.trans (congrArg some (by kernel_rfl))
  f281 := Tryz.func276.trans (congrArg some (by kernel_rfl))
  f282 := Tryz.func277.trans (congrArg some (by kernel_rfl))
  f283 := Tryz.func212.trans (congrArg some (by kernel_rfl))
  f284 := Tryz.func213.trans (congrArg some (by kernel_rfl))
  f285 := Tryz.func214.trans (congrArg some (by kernel_rfl))
  f286 := Tryz.func215.trans (congrArg some (by kernel_rfl))
  f287 := Tryz.func273.trans (congrArg some (by kernel_rfl))
  f316 := Tryz.func311.trans (congrArg some (by kernel_rfl))
  f317 := Tryz.func269.trans (congrArg some (by kernel_rfl))
  f318 := Tryz.func270.trans (congrArg some (by kernel_rfl))
  f319 := Tryz.func271.trans (congrArg some (by kernel_rfl))
  f320 := Tryz.func272.trans (congrArg some (by kernel_rfl))
  f321 := Tryz.func309.trans (congrArg some (by kernel_rfl))
  f322 := Tryz.func310.trans (congrArg some (by kernel_rfl))
  f337 := Tryz.func307.trans (congrArg some (by kernel_rfl))
  f338 := Tryz.func308.trans (congrArg some (by kernel_rfl))
  t0 := Tryz.underlying0
  a0 := Tryz.isAgg0
  z0 := Tryz.sizeOf0
  v0 := Tryz.zeroValue0
  t2 := Tryz.underlying2
  a2 := Tryz.isAgg2
  z2 := Tryz.sizeOf2
  v2 := Tryz.zeroValue2
  t3 := Tryz.underlying3
  a3 := Tryz.isAgg3
  z3 := Tryz.sizeOf3
  v3 := Tryz.zeroValue3
  t4 := Tryz.underlying4
  a4 := Tryz.isAgg4
  z4 := Tryz.sizeOf4
  v4 := Tryz.zeroValue4
  t5 := Tryz.underlying5
  a5 := Tryz.isAgg5
  z5 := Tryz.sizeOf5
  v5 := Tryz.zeroValue5
  t9 := Tryz.underlying9
  a9 := Tryz.isAgg9
  z9 := Tryz.sizeOf9
  v9 := Tryz.zeroValue9
  t20 := Tryz.underlying20
  a20 := Tryz.isAgg20
  z20 := Tryz.sizeOf20
  v20 := Tryz.zeroValue20
  t21 := Tryz.underlying21
  a21 := Tryz.isAgg21
  z21 := Tryz.sizeOf21
  v21 := Tryz.zeroValue21
  t37 := Tryz.underlying49
  a37 := Tryz.isAgg49
  z37 := Tryz.sizeOf49
  v37 := Tryz.zeroValue49
  t46 := Tryz.underlying184
  a46 := Tryz.isAgg184
  z46 := Tryz.sizeOf184
  v46 := Tryz.zeroValue184
  t51 := Tryz.underlying250
  a51 := Tryz.isAgg250
  z51 := Tryz.sizeOf250
  v51 := Tryz.zeroValue250
  t53 := Tryz.underlying29
  a53 := Tryz.isAgg29
  z53 := Tryz.sizeOf29
  v53 := Tryz.zeroValue29
  t75 := Tryz.underlying217
  a75 := Tryz.isAgg217
  z75 := Tryz.sizeOf217
  v75 := Tryz.zeroValue217
  t85 := Tryz.underlying302
  a85 := Tryz.isAgg302
  z85 := Tryz.sizeOf302
  v85 := Tryz.zeroValue302
  t127 := Tryz.underlying274
  a127 := Tryz.isAgg274
  z127 := Tryz.sizeOf274
  v127 := Tryz.zeroValue274
  t143 := Tryz.underlying441
  a143 := Tryz.isAgg441
  z143 := Tryz.sizeOf441
  v143 := Tryz.zeroValue441
  t145 := Tryz.underlying443
  a145 := Tryz.isAgg443
  z145 := Tryz.sizeOf443
  v145 := Tryz.zeroValue443
  t167 := Tryz.underlying393
  a167 := Tryz.isAgg393
  z167 := Tryz.sizeOf393
  v167 := Tryz.zeroValue393
  t168 := Tryz.underlying396
  a168 := Tryz.isAgg396
  z168 := Tryz.sizeOf396
  v168 := Tryz.zeroValue396
  t171 := Tryz.underlying342
  a171 := Tryz.isAgg342
  z171 := Tryz.sizeOf342
  v171 := Tryz.zeroValue342
  t173 := Tryz.underlying345
  a173 := Tryz.isAgg345
  z173 := Tryz.sizeOf345
  v173 := Tryz.zeroValue345
  t175 := Tryz.underlying394
  a175 := Tryz.isAgg394
  z175 := Tryz.sizeOf394
  v175 := Tryz.zeroValue394
  t210 := Tryz.underlying422
  a210 := Tryz.isAgg422
  z210 := Tryz.sizeOf422
  v210 := Tryz.zeroValue422
  t212 := Tryz.underlying390
  a212 := Tryz.isAgg390
  z212 := Tryz.sizeOf390
  v212 := Tryz.zeroValue390
  t213 := Tryz.underlying391
  a213 := Tryz.isAgg391
  z213 := Tryz.sizeOf391
  t232 := Tryz.underlying30
  a232 := Tryz.isAgg30
  z232 := Tryz.sizeOf30
  v232 := Tryz.zeroValue30
  t233 := Tryz.underlying440
  a233 := Tryz.isAgg440
  z233 := Tryz.sizeOf440
  v233 := Tryz.zeroValue440
  g15 := by kernel_rfl
  g16 := by kernel_rfl
  g17 := by kernel_rfl
  g18 := by kernel_rfl
  g19 := by kernel_rfl
  t80 := Tryz.underlying192
  a80 := Tryz.isAgg192
  z80 := Tryz.sizeOf192
  v80 := Tryz.zeroValue192
  i0 := by kernel_rfl
  i2 := by kernel_rfl
  i3 := by kernel_rfl
  i4 := by kernel_rfl
  i5 := by kernel_rfl
  i9 := by kernel_rfl
  i20 := by kernel_rfl
  i21 := by kernel_rfl
  i37 := by kernel_rfl
  i46 := by kernel_rfl
  i51 := by kernel_rfl
  i53 := by kernel_rfl
  i75 := by kernel_rfl
  i80 := by kernel_rfl
  i85 := by kernel_rfl
  i127 := by kernel_rfl
  i143 := by kernel_rfl
  i145 := by kernel_rfl
  i167 := by kernel_rfl
  i168 := by kernel_rfl
  i171 := by kernel_rfl
  i173 := by kernel_rfl
  i175 := by kernel_rfl
  i210 := by kernel_rfl
  i212 := by kernel_rfl
  i232 := by kernel_rfl
  i233 := by kernel_rfl
  m15 := by kernel_rfl
  m16 := by kernel_rfl
  m17 := by kernel_rfl
  m18 := by kernel_rfl
  m19 := by kernel_rfl
  c0 := by kernel_rfl
  c2 := by kernel_rfl
  c3 := by kernel_rfl
  c4 := by kernel_rfl
  c5 := by kernel_rfl
  c9 := by kernel_rfl
  c20 := by kernel_rfl
  c21 := by kernel_rfl
  c37 := by kernel_rfl
  c46 := by kernel_rfl
  c51 := by kernel_rfl
  c53 := by kernel_rfl
  c75 := by kernel_rfl
  c80 := by kernel_rfl
  c85 := by kernel_rfl
  c127 := by kernel_rfl
  c143 := by kernel_rfl
  c145 := by kernel_rfl
  c167 := by kernel_rfl
  c168 := by kernel_rfl
  c171 := by kernel_rfl
  c173 := by kernel_rfl
  c175 := by kernel_rfl
  c210 := by kernel_rfl
  c212 := by kernel_rfl
  c213 := by kernel_rfl
  c232 := by kernel_rfl
  c233 := by kernel_rfl }
open Go.RowKit in
theorem Tryz.strconv_ParseInt_10_at64_ok (s : ByteArray) (hmax : s.size ≤ 9223372036854775806) (v : Int) (h : Lib.parseIntB 64 s.data.toList = .ok v) (w : World) :
    Calls Tryz.prog 176 #[.string s, .int .i64 10, .int .i64 64] w fun e w' => e = .returned (.tuple #[.int .i64 v, .nilIface]) ∧ (w' = w ∨ ∃ t, w' = Lib.bytesWorld w 5 t) := Any.strconv_ParseInt_10_at64_ok Tryz.laysC174 s hmax v h w
def Tryz.lays143_ren : Go.Shelf.Ren := ⟨fun | 143 => 185 | 219 => 224 | 217 => 226 | 225 => 284 | 224 => 285 | 267 => 286 | 266 => 287 | 314 => 318 | n => n, fun | 9 => 9 | 3 => 3 | 4 => 4 | 5 => 5 | 46 => 184 | 146 => 426 | 51 => 250 | n => n, fun | 1 => 0 | n => n⟩
theorem Tryz.lays143 : Go.Proofs.Lays.n143 Tryz.prog Tryz.lays143_ren := {
  mixed := by kernel_rfl
  f143 := Tryz.func185.trans (congrArg some (by kernel_rfl))
  f217 := Tryz.func226.trans (congrArg some (by kernel_rfl))
  f219 := Tryz.func224.trans (congrArg some (by kernel_rfl))
  f224 := Tryz.func285.trans (congrArg some (by kernel_rfl))
  f225 := Tryz.func284.trans (congrArg some (by kernel_rfl))
  f266 := Tryz.func287.trans (congrArg some (by kernel_rfl))
  f267 := Tryz.func286.trans (congrArg some (by kernel_rfl))
  f314 := Tryz.func318.trans (congrArg some (by kernel_rfl))
  t3 := Tryz.underlying3
  a3 := Tryz.isAgg3
  z3 := Tryz.sizeOf3
  v3 := Tryz.zeroValue3
  t4 := Tryz.underlying4
  a4 := Tryz.isAgg4
  z4 := Tryz.sizeOf4
  v4 := Tryz.zeroValue4
  t5 := Tryz.underlying5
  a5 := Tryz.isAgg5
  z5 := Tryz.sizeOf5
  v5 := Tryz.zeroValue5
  t9 := Tryz.underlying9
  a9 := Tryz.isAgg9
  z9 := Tryz.sizeOf9
  v9 := Tryz.zeroValue9
  t46 := Tryz.underlying184
  a46 := Tryz.isAgg184
  z46 := Tryz.sizeOf184
  v46 := Tryz.zeroValue184
  t51 := Tryz.underlying250
  a51 := Tryz.isAgg250
  z51 := Tryz.sizeOf250
  v51 := Tryz.zeroValue250
  t146 := Tryz.underlying426
  a146 := Tryz.isAgg426
  z146 := Tryz.sizeOf426
  v146 := Tryz.zeroValue426
  g1 := by kernel_rfl }
open Go.RowKit Go.Lib in
theorem Tryz.strings_Index_one (s : ByteArray) (c : UInt8) (w : World) :
    Calls Tryz.prog 185 #[.string s, .string ⟨#[c]⟩] w fun e w' => e = .returned (.int .i64 (Lib.indexByte s.data.toList c)) ∧ w' = w := Any.strings_Index_one Tryz.lays143 s c w
def Tryz.laysGw17_ren : Go.Shelf.Ren := ⟨fun | 17 => 143 | 15 => 186 | 20 => 225 | n => n, fun | 9 => 9 | 23 => 271 | 4 => 4 | 3 => 3 | 0 => 0 | 21 => 21 | n => n, fun | n => n⟩
theorem Tryz.laysGw17 : Go.Proofs.LaysGw.n17 Tryz.prog Tryz.laysGw17_ren := {
  mixed := by kernel_rfl
  f15 := Tryz.func186.trans (congrArg some (by kernel_rfl))
  f17 := Tryz.func143.trans (congrArg some (by kernel_rfl))
  f20 := Tryz.func225.trans (congrArg some (by kernel_rfl))
  t0 := Tryz.underlying0
  a0 := Tryz.isAgg0
  z0 := Tryz.sizeOf0
  v0 := Tryz.zeroValue0
  i0 := by kernel_rfl
  t3 := Tryz.underlying3
  a3 := Tryz.isAgg3
  z3 := Tryz.sizeOf3
  v3 := Tryz.zeroValue3
  i3 := by kernel_rfl
  t4 := Tryz.underlying4
  a4 := Tryz.isAgg4
  z4 := Tryz.sizeOf4
  v4 := Tryz.zeroValue4
  i4 := by kernel_rfl
  t9 := Tryz.underlying9
  a9 := Tryz.isAgg9
  z9 := Tryz.sizeOf9
  v9 := Tryz.zeroValue9
  i9 := by kernel_rfl
  t21 := Tryz.underlying21
  a21 := Tryz.isAgg21
  z21 := Tryz.sizeOf21
  v21 := Tryz.zeroValue21
  i21 := by kernel_rfl
  t23 := Tryz.underlying271
  a23 := Tryz.isAgg271
  z23 := Tryz.sizeOf271
  v23 := Tryz.zeroValue271
  i23 := by kernel_rfl }
def Tryz.lays99_ren : Go.Shelf.Ren := ⟨fun | 99 => 131 | 206 => 177 | n => n, fun | 9 => 9 | 4 => 4 | 3 => 3 | n => n, fun | n => n⟩
theorem Tryz.lays99 : Go.Proofs.Lays.n99 Tryz.prog Tryz.lays99_ren := {
  mixed := by kernel_rfl
  f99 := Tryz.func131.trans (congrArg some (by kernel_rfl))
  f206 := Tryz.func177.trans (congrArg some (by kernel_rfl))
  t3 := Tryz.underlying3
  a3 := Tryz.isAgg3
  z3 := Tryz.sizeOf3
  v3 := Tryz.zeroValue3
  t4 := Tryz.underlying4
  a4 := Tryz.isAgg4
  z4 := Tryz.sizeOf4
  v4 := Tryz.zeroValue4
  t9 := Tryz.underlying9
  a9 := Tryz.isAgg9
  z9 := Tryz.sizeOf9
  v9 := Tryz.zeroValue9 }
open Go.RowKit Go.Lib in
theorem Tryz.strings_HasPrefix (s p : ByteArray) (w : World) :
    Calls Tryz.prog 131 #[.string s, .string p] w fun e w' => e = .returned (.bool (Lib.hasPrefix s.data.toList p.data.toList)) ∧ w' = w := Any.strings_HasPrefix Tryz.lays99 s p w
open Go.RowKit Go.Lib in
theorem Tryz.strings_ContainsFunc_grows (g : Nat) (lb : Array Value) (eg : ∀ args w, (callFunc g args).run Tryz.prog w = .ok (.enter g args) w) (p : Nat → Bool) (s : ByteArray) (w : World) (hp : PredGrows Tryz.prog g lb p w) :
    Calls Tryz.prog 143 #[.string s, .func (.func g) #[] lb] w fun e w' => e = .returned (.bool (decide (0 ≤ Lib.idxFunc p true s))) ∧ Below w.heap.size w w' := Any.strings_ContainsFunc_grows Tryz.laysGw17 g lb eg p s w hp
end Go.Proofs
/- The walks of package path: sign, part, May, Under. -/
namespace Go.Proofs.YtlbipokkdiiaiaaGreatDoor
open Go.RowKit
theorem idx4' : ∀ c : Fin 128, decide (0 ≤ Lib.indexByte [95, 46, 45, 43] (UInt8.ofNat c.1)) = (c.1 == 95 || c.1 == 46 || c.1 == 45 || c.1 == 43) := by decide
theorem idx4 (c : Nat) (h : c < 128) : decide (0 ≤ Lib.indexByte [95, 46, 45, 43] (UInt8.ofNat c)) = (c == 95 || c == 46 || c == 45 || c == 43) := idx4' ⟨c, h⟩
set_option maxHeartbeats 400000 in
set_option maxRecDepth 100000 in
theorem sign_any (c : Nat) (hc : c ≤ 1114111) (w : World) : Calls Tryz.prog 145 #[.int .i32 c] w fun e w' => e = .returned (.bool (signN c)) ∧ w = w' := by
  go_enter Tryz.func145, Tryz.ntmps145
  go_wp2_with (go_at_call 187; refine (Tryz.strings_IndexByte _ _ _).mono ?_; rintro e w' ⟨rfl, rfl⟩)
  all_goals
    go_ret
    refine ⟨congrArg (fun x => Ending.returned (Value.bool x)) ?_, rfl⟩
    first
      | (have h4 := idx4 c (by omega)
         rw [h4, Bool.eq_iff_iff]
         simp only [signN, Bool.or_eq_true, Bool.and_eq_true, decide_eq_true_eq, beq_iff_eq]
         omega)
      | (rw [Bool.eq_iff_iff]
         simp only [signN, Bool.or_eq_true, Bool.and_eq_true, decide_eq_true_eq, beq_iff_eq]
         omega)
      | (symm
         simp only [signN, Bool.or_eq_true, Bool.and_eq_true, decide_eq_true_eq, beq_iff_eq]
         omega)
      | go_goals
theorem sign_is (c : Nat) (hc : c ≤ 1114111) (b : Bool) (h : signN c = b) (w : World) : Calls Tryz.prog 145 #[.int .i32 c] w fun e w' => e = .returned (.bool b) ∧ w = w' := by
  subst h; exact sign_any c hc w
set_option maxHeartbeats 400000 in
theorem notSign_any (c : Nat) (hc : c ≤ 1114111) (w : World) : Calls Tryz.prog 144 #[.int .i32 c] w fun e w' => e = .returned (.bool (!signN c)) ∧ w = w' := by
  obtain ⟨b, hb⟩ : ∃ b, signN c = b := ⟨_, rfl⟩
  have Hb := hid hb; clear hb
  rw [Hb.out]
  go_enter Tryz.func144, Tryz.ntmps144
  go_wp2_with (go_at_call 145; refine (sign_is c hc b Hb.out _).mono ?_; rintro e w' ⟨rfl, rfl⟩)
  go_ret
  exact ⟨rfl, rfl⟩
theorem notSign_pred (w : World) : Go.Proofs.PredGrows Tryz.prog 144 #[] (fun x => !signN x) w := by
  intro W x hx _
  exact (notSign_any x hx W).mono fun _ _ ⟨h, h2⟩ => ⟨h, h2 ▸ Below.refl _ _⟩
set_option maxHeartbeats 400000 in
theorem part_any (l : List UInt8) (w : World) : Calls Tryz.prog 95 #[.string (bs l)] w fun e w' => e = .returned (.bool (partB l)) ∧ Below w.heap.size w w' := by
  have eg : ∀ args w, (callFunc 144 args).run Tryz.prog w = .ok (.enter 144 args) w := enters_of Tryz.func144 (by kernel_rfl) rfl
  have hcon := Tryz.strings_ContainsFunc_grows 144 #[] eg (fun x => !signN x) (bs l)
  rw [contains_sign l] at hcon
  obtain ⟨b, hb⟩ : ∃ b, (l.all fun b => signN b.toNat) = b := ⟨_, rfl⟩
  rw [hb] at hcon
  have Hb := hid hb; clear hb
  have Hcon := hid hcon; clear hcon
  have hE : (l.isEmpty) = decide (l = []) := by cases l <;> simp
  have Hp : Hid (partB l = (!decide (l = []) && decide (l.length ≤ 64) && !(l == [46]) && !(l == [46, 46]) && b)) := by
    apply hid; rw [partB, hE, Hb.out]
  clear hE
  by_cases h0 : l = []
  · subst h0
    go_enter Tryz.func95, Tryz.ntmps95
    go_wp2_with fail
    go_ret
    exact ⟨rfl, Below.refl _ _⟩
  · have h0' : l.isEmpty = false := by simpa using h0
    by_cases h64 : l.length ≤ 64
    · have H0 := hid h0; clear h0
      rcases Bool.eq_false_or_eq_true (l == [46]) with h1 | h1
      · go_enter Tryz.func95, Tryz.ntmps95
        go_wp2_with fail
        go_ret
        exact ⟨by rw [Hp.out, h1]; simp, Below.refl _ _⟩
      · rcases Bool.eq_false_or_eq_true (l == [46, 46]) with h2 | h2
        · go_enter Tryz.func95, Tryz.ntmps95
          go_wp2_with fail
          go_ret
          exact ⟨by rw [Hp.out, h1, h2]; simp, Below.refl _ _⟩
        · go_enter Tryz.func95, Tryz.ntmps95
          go_wp2_with fail
          refine (Hcon.out w (notSign_pred w)).mono ?_
          rintro e w1 ⟨rfl, hb1⟩
          go_wp2_with fail
          go_ret
          exact ⟨by rw [Hp.out, h1, h2, decide_eq_false H0.out, decide_eq_true h64]; simp, hb1⟩
    · go_enter Tryz.func95, Tryz.ntmps95
      go_wp2_with fail
      go_ret
      exact ⟨by rw [Hp.out, decide_eq_false h64]; simp, Below.refl _ _⟩
theorem part_is (l : List UInt8) (b : Bool) (h : partB l = b) (w : World) : Calls Tryz.prog 95 #[.string (bs l)] w fun e w' => e = .returned (.bool b) ∧ Below w.heap.size w w' := by
  subst h; exact part_any l w
end Go.Proofs.YtlbipokkdiiaiaaGreatDoor
