/- The shelf's contracts at this dump, in plain words (written by the kit's lay-plain.mjs, cut to what is used). -/
import Derived.Shelf.Strings.Builder1
import Derived.Shelf.Strings.Builder2
import Derived.Shelf.Small.Strs
import Derived.Shelf.Strings.BuilderF
import Derived.Shelf.Strings.BuilderK
import Derived.Shelf.Utf8.RuneCount
import Derived.Shelf.Strconv.Itoa0
import Derived.Shelf.Strconv.Itoa1
import Derived.Shelf.LaysM
import Derived.Shelf.Strconv.Itoa2
import Derived.Shelf.Strconv.Itoa3
import Derived.Shelf.Strconv.Clone
import Derived.Shelf.Strconv.SyntaxError
import Derived.Shelf.LaysC
import Derived.Shelf.Strconv.ToError
import Derived.Shelf.Strconv.Lower
import Derived.Shelf.Strconv.ParseUint10
import Derived.Shelf.Strconv.ParseUint10Empty
import Derived.Shelf.Strconv.ParseUint10Any
import Derived.Shelf.Strconv.RangeError
import Derived.Shelf.Strconv.ToErrorRange
import Derived.Shelf.Strconv.ParseUintEmpty
import Derived.Shelf.Strconv.ParseUint10b64
import Derived.Shelf.Strconv.ParseUint10b32
import Derived.Shelf.Strconv.ParseUint10b16
import Derived.Shelf.Strconv.ParseUint10b8
import Derived.Shelf.Strconv.ParseUint10At
import Derived.Ground.MpProg
import Derived.Shelf.Pu.ParseUintPublic10
import Derived.Shelf.Pu.ErrVarParseUint
import Derived.Shelf.Strings.Search1
import Derived.Shelf.Strings.Search2
import Derived.Shelf.Strings.Search3
import Derived.Shelf.Strings.Count
import Derived.Shelf.Strings.Shaped
import Derived.Shelf.Strings.LastIndex
import Derived.Shelf.Strings.Prefix
import Derived.Shelf.Strings.Split
import Derived.Shelf.Strings.RuneCount
import Derived.Ground.PaProg
import Derived.Shelf.Path.Small
import Derived.Test.YtheomoamobcaeaaGreatDoorProg
namespace Go.Proofs
open Go.Shelf
def Tryz.lays137_ren : Go.Shelf.Ren := ⟨fun | 137 => 30 | 217 => 42 | 266 => 52 | n => n, fun | 9 => 9 | 5 => 5 | 3 => 3 | n => n, fun | n => n⟩
theorem Tryz.lays137 : Go.Proofs.Lays.n137 Tryz.prog Tryz.lays137_ren := {
  mixed := by kernel_rfl
  f137 := Tryz.func30.trans (congrArg some (by kernel_rfl))
  f217 := Tryz.func42.trans (congrArg some (by kernel_rfl))
  f266 := Tryz.func52.trans (congrArg some (by kernel_rfl))
  t3 := Tryz.underlying3
  a3 := Tryz.isAgg3
  z3 := Tryz.sizeOf3
  v3 := Tryz.zeroValue3
  t5 := Tryz.underlying5
  a5 := Tryz.isAgg5
  z5 := Tryz.sizeOf5
  v5 := Tryz.zeroValue5
  t9 := Tryz.underlying9
  a9 := Tryz.isAgg9
  z9 := Tryz.sizeOf9
  v9 := Tryz.zeroValue9 }
open Go.RowKit in
theorem Tryz.strings_IndexByte (s : ByteArray) (c : Int) (w : World) :
    Calls Tryz.prog 30 #[.string s, .int .u8 c] w fun e w' => e = .returned (.int .i64 (Lib.indexByte s.data.toList c.toNat.toUInt8)) ∧ w' = w := Any.strings_IndexByte Tryz.lays137 s c w
def Tryz.laysPu14_ren : Go.Shelf.Ren := ⟨fun | 14 => 40 | 16 => 50 | 17 => 51 | 19 => 60 | 20 => 61 | 21 => 62 | 22 => 63 | 23 => 64 | 24 => 65 | 25 => 75 | 27 => 77 | 26 => 76 | 28 => 88 | 29 => 96 | 30 => 97 | 31 => 98 | 32 => 99 | 33 => 100 | 35 => 102 | 34 => 101 | 36 => 103 | 37 => 104 | 38 => 105 | 39 => 106 | 40 => 107 | n => n, fun | 9 => 9 | 3 => 3 | 22 => 72 | 24 => 74 | 25 => 75 | 4 => 4 | 34 => 96 | 5 => 5 | 36 => 98 | 37 => 77 | 0 => 0 | 39 => 99 | 21 => 21 | 44 => 118 | 47 => 134 | 50 => 137 | 48 => 135 | 2 => 2 | 52 => 143 | 55 => 146 | 59 => 149 | 60 => 58 | 20 => 20 | 61 => 150 | 65 => 153 | 66 => 154 | 67 => 155 | n => n, fun | 0 => 1 | 1 => 2 | 2 => 3 | 3 => 4 | 4 => 5 | n => n⟩
theorem Tryz.laysPu14 : Go.Proofs.LaysPu.n14 Tryz.prog Tryz.laysPu14_ren := {
  mixed := by kernel_rfl
  f14 := Tryz.func40.trans (congrArg some (by kernel_rfl))
  f16 := Tryz.func50.trans (congrArg some (by kernel_rfl))
  f17 := Tryz.func51.trans (congrArg some (by kernel_rfl))
  f19 := Tryz.func60.trans (congrArg some (by kernel_rfl))
  f20 := Tryz.func61.trans (congrArg some (by kernel_rfl))
  f21 := Tryz.func62.trans (congrArg some (by kernel_rfl))
  f22 := Tryz.func63.trans (congrArg some (by kernel_rfl))
  f23 := Tryz.func64.trans (congrArg some (by kernel_rfl))
  f24 := Tryz.func65.trans (congrArg some (by kernel_rfl))
  f25 := Tryz.func75.trans (congrArg some (by kernel_rfl))
  f26 := Tryz.func76.trans (congrArg some (by kernel_rfl))
  f27 := Tryz.func77.trans (congrArg some (by kernel_rfl))
  f28 := Tryz.func88.trans (congrArg some (by kernel_rfl))
  f29 := Tryz.func96.trans (congrArg some (by kernel_rfl))
  f30 := Tryz.func97.trans (congrArg some (by kernel_rfl))
  f31 := Tryz.func98.trans (congrArg some (by kernel_rfl))
  f32 := Tryz.func99.trans (congrArg some (by kernel_rfl))
  f33 := Tryz.func100.trans (congrArg some (by kernel_rfl))
  f34 := Tryz.func101.trans (congrArg some (by kernel_rfl))
  f35 := Tryz.func102.trans (congrArg some (by kernel_rfl))
  f36 := Tryz.func103.trans (congrArg some (by kernel_rfl))
  f37 := Tryz.func104.trans (congrArg some (by kernel_rfl))
  f38 := Tryz.func105.trans (congrArg some (by kernel_rfl))
  f39 := Tryz.func106.trans (congrArg some (by kernel_rfl))
  f40 := Tryz.func107.trans (congrArg some (by kernel_rfl))
  t0 := Tryz.underlying0
  a0 := Tryz.isAgg0
  z0 := Tryz.sizeOf0
  v0 := Tryz.zeroValue0
  i0 := by kernel_rfl
  t2 := Tryz.underlying2
  a2 := Tryz.isAgg2
  z2 := Tryz.sizeOf2
  v2 := Tryz.zeroValue2
  i2 := by kernel_rfl
  t3 := Tryz.underlying3
  a3 := Tryz.isAgg3
  z3 := Tryz.sizeOf3
  v3 := Tryz.zeroValue3
  i3 := by kernel_rfl
  t4 := Tryz.underlying4
  a4 := Tryz.isAgg4
  z4 := Tryz.sizeOf4
  v4 := Tryz.zeroValue4
  i4 := by kernel_rfl
  t5 := Tryz.underlying5
  a5 := Tryz.isAgg5
  z5 := Tryz.sizeOf5
  v5 := Tryz.zeroValue5
  i5 := by kernel_rfl
  t9 := Tryz.underlying9
  a9 := Tryz.isAgg9
  z9 := Tryz.sizeOf9
  v9 := Tryz.zeroValue9
  i9 := by kernel_rfl
  t20 := Tryz.underlying20
  a20 := Tryz.isAgg20
  z20 := Tryz.sizeOf20
  v20 := Tryz.zeroValue20
  i20 := by kernel_rfl
  t21 := Tryz.underlying21
  a21 := Tryz.isAgg21
  z21 := Tryz.sizeOf21
  v21 := Tryz.zeroValue21
  i21 := by kernel_rfl
  t22 := Tryz.underlying72
  a22 := Tryz.isAgg72
  z22 := Tryz.sizeOf72
  v22 := Tryz.zeroValue72
  i22 := by kernel_rfl
  t24 := Tryz.underlying74
  a24 := Tryz.isAgg74
  z24 := Tryz.sizeOf74
  v24 := Tryz.zeroValue74
  i24 := by kernel_rfl
  t25 := Tryz.underlying75
  a25 := Tryz.isAgg75
  z25 := Tryz.sizeOf75
  v25 := Tryz.zeroValue75
  i25 := by kernel_rfl
  t34 := Tryz.underlying96
  a34 := Tryz.isAgg96
  z34 := Tryz.sizeOf96
  v34 := Tryz.zeroValue96
  i34 := by kernel_rfl
  c34 := by kernel_rfl
  t36 := Tryz.underlying98
  a36 := Tryz.isAgg98
  z36 := Tryz.sizeOf98
  v36 := Tryz.zeroValue98
  i36 := by kernel_rfl
  t37 := Tryz.underlying77
  a37 := Tryz.isAgg77
  z37 := Tryz.sizeOf77
  v37 := Tryz.zeroValue77
  i37 := by kernel_rfl
  t39 := Tryz.underlying99
  a39 := Tryz.isAgg99
  z39 := Tryz.sizeOf99
  v39 := Tryz.zeroValue99
  i39 := by kernel_rfl
  t44 := Tryz.underlying118
  a44 := Tryz.isAgg118
  z44 := Tryz.sizeOf118
  v44 := Tryz.zeroValue118
  i44 := by kernel_rfl
  t47 := Tryz.underlying134
  a47 := Tryz.isAgg134
  z47 := Tryz.sizeOf134
  v47 := Tryz.zeroValue134
  i47 := by kernel_rfl
  t48 := Tryz.underlying135
  a48 := Tryz.isAgg135
  z48 := Tryz.sizeOf135
  v48 := Tryz.zeroValue135
  i48 := by kernel_rfl
  t50 := Tryz.underlying137
  a50 := Tryz.isAgg137
  z50 := Tryz.sizeOf137
  v50 := Tryz.zeroValue137
  i50 := by kernel_rfl
  t52 := Tryz.underlying143
  a52 := Tryz.isAgg143
  z52 := Tryz.sizeOf143
  v52 := Tryz.zeroValue143
  i52 := by kernel_rfl
  t55 := Tryz.underlying146
  a55 := Tryz.isAgg146
  z55 := Tryz.sizeOf146
  v55 := Tryz.zeroValue146
  i55 := by kernel_rfl
  t59 := Tryz.underlying149
  a59 := Tryz.isAgg149
  z59 := Tryz.sizeOf149
  v59 := Tryz.zeroValue149
  i59 := by kernel_rfl
  t60 := Tryz.underlying58
  a60 := Tryz.isAgg58
  z60 := Tryz.sizeOf58
  v60 := Tryz.zeroValue58
  i60 := by kernel_rfl
  t61 := Tryz.underlying150
  a61 := Tryz.isAgg150
  z61 := Tryz.sizeOf150
  t65 := Tryz.underlying153
  a65 := Tryz.isAgg153
  z65 := Tryz.sizeOf153
  v65 := Tryz.zeroValue153
  i65 := by kernel_rfl
  t66 := Tryz.underlying154
  a66 := Tryz.isAgg154
  z66 := Tryz.sizeOf154
  v66 := Tryz.zeroValue154
  i66 := by kernel_rfl
  t67 := Tryz.underlying155
  a67 := Tryz.isAgg155
  z67 := Tryz.sizeOf155
  v67 := Tryz.zeroValue155
  i67 := by kernel_rfl
  g0 := by kernel_rfl
  m0 := by kernel_rfl
  g1 := by kernel_rfl
  m1 := by kernel_rfl
  g2 := by kernel_rfl
  m2 := by kernel_rfl
  g3 := by kernel_rfl
  m3 := by kernel_rfl
  g4 := by kernel_rfl
  m4 := by kernel_rfl }
open Go.RowKit in
theorem Tryz.strconv_ParseUint_10_at64_ok (s : ByteArray) (hmax : s.size ≤ 9223372036854775806) (u : Nat) (h : Lib.parseUintB 64 s.data.toList = .ok u) (w : World) :
    Calls Tryz.prog 40 #[.string s, .int .i64 10, .int .i64 64] w fun e w' => e = .returned (.tuple #[.int .u64 u, .nilIface]) ∧ (w' = w ∨ w' = Lib.bytesWorld w 5 s) := Any.strconv_ParseUint_10_at64_ok Tryz.laysPu14 s hmax u h w
def Tryz.lays138_ren : Go.Shelf.Ren := ⟨fun | 138 => 31 | 195 => 43 | 218 => 44 | 143 => 45 | 219 => 53 | 217 => 42 | 225 => 66 | 224 => 67 | 267 => 68 | 266 => 52 | 314 => 78 | n => n, fun | 9 => 9 | 3 => 3 | 4 => 4 | 5 => 5 | 0 => 0 | 46 => 98 | 146 => 121 | 51 => 58 | n => n, fun | 1 => 0 | n => n⟩
theorem Tryz.lays138 : Go.Proofs.Lays.n138 Tryz.prog Tryz.lays138_ren := {
  mixed := by kernel_rfl
  f138 := Tryz.func31.trans (congrArg some (by kernel_rfl))
  f143 := Tryz.func45.trans (congrArg some (by kernel_rfl))
  f195 := Tryz.func43.trans (congrArg some (by kernel_rfl))
  f217 := Tryz.func42.trans (congrArg some (by kernel_rfl))
  f218 := Tryz.func44.trans (congrArg some (by kernel_rfl))
  f219 := Tryz.func53.trans (congrArg some (by kernel_rfl))
  f224 := Tryz.func67.trans (congrArg some (by kernel_rfl))
  f225 := Tryz.func66.trans (congrArg some (by kernel_rfl))
  f266 := Tryz.func52.trans (congrArg some (by kernel_rfl))
  f267 := Tryz.func68.trans (congrArg some (by kernel_rfl))
  f314 := Tryz.func78.trans (congrArg some (by kernel_rfl))
  t0 := Tryz.underlying0
  a0 := Tryz.isAgg0
  z0 := Tryz.sizeOf0
  v0 := Tryz.zeroValue0
  t3 := Tryz.underlying3
  a3 := Tryz.isAgg3
  z3 := Tryz.sizeOf3
  v3 := Tryz.zeroValue3
  t4 := Tryz.underlying4
  a4 := Tryz.isAgg4
  z4 := Tryz.sizeOf4
  v4 := Tryz.zeroValue4
  t5 := Tryz.underlying5
  a5 := Tryz.isAgg5
  z5 := Tryz.sizeOf5
  v5 := Tryz.zeroValue5
  t9 := Tryz.underlying9
  a9 := Tryz.isAgg9
  z9 := Tryz.sizeOf9
  v9 := Tryz.zeroValue9
  t46 := Tryz.underlying98
  a46 := Tryz.isAgg98
  z46 := Tryz.sizeOf98
  v46 := Tryz.zeroValue98
  t51 := Tryz.underlying58
  a51 := Tryz.isAgg58
  z51 := Tryz.sizeOf58
  v51 := Tryz.zeroValue58
  t146 := Tryz.underlying121
  a146 := Tryz.isAgg121
  z146 := Tryz.sizeOf121
  v146 := Tryz.zeroValue121
  g1 := by kernel_rfl }
open Go.RowKit Go.Lib in
theorem Tryz.strings_Count_one (s : ByteArray) (c : UInt8) (w : World) :
    Calls Tryz.prog 31 #[.string s, .string ⟨#[c]⟩] w fun e w' => e = .returned (.int .i64 (Lib.countByte s.data.toList c)) ∧ w' = w := Any.strings_Count_one Tryz.lays138 s c w
def Tryz.lays149_ren : Go.Shelf.Ren := ⟨fun | 149 => 32 | 222 => 46 | n => n, fun | 9 => 9 | 5 => 5 | 3 => 3 | 4 => 4 | n => n, fun | n => n⟩
theorem Tryz.lays149 : Go.Proofs.Lays.n149 Tryz.prog Tryz.lays149_ren := {
  mixed := by kernel_rfl
  f149 := Tryz.func32.trans (congrArg some (by kernel_rfl))
  f222 := Tryz.func46.trans (congrArg some (by kernel_rfl))
  t3 := Tryz.underlying3
  a3 := Tryz.isAgg3
  z3 := Tryz.sizeOf3
  v3 := Tryz.zeroValue3
  t4 := Tryz.underlying4
  a4 := Tryz.isAgg4
  z4 := Tryz.sizeOf4
  v4 := Tryz.zeroValue4
  t5 := Tryz.underlying5
  a5 := Tryz.isAgg5
  z5 := Tryz.sizeOf5
  v5 := Tryz.zeroValue5
  t9 := Tryz.underlying9
  a9 := Tryz.isAgg9
  z9 := Tryz.sizeOf9
  v9 := Tryz.zeroValue9 }
open Go.RowKit Go.Lib in
theorem Tryz.strings_LastIndexByte (s : ByteArray) (c : Int) (hs : s.size < 4611686018427387904) (w : World) :
    Calls Tryz.prog 32 #[.string s, .int .u8 c] w fun e w' => e = .returned (.int .i64 (Lib.lastIndexByte s c)) ∧ w' = w := Any.strings_LastIndexByte Tryz.lays149 s c hs w
def Tryz.lays99_ren : Go.Shelf.Ren := ⟨fun | 99 => 29 | 206 => 41 | n => n, fun | 9 => 9 | 4 => 4 | 3 => 3 | n => n, fun | n => n⟩
theorem Tryz.lays99 : Go.Proofs.Lays.n99 Tryz.prog Tryz.lays99_ren := {
  mixed := by kernel_rfl
  f99 := Tryz.func29.trans (congrArg some (by kernel_rfl))
  f206 := Tryz.func41.trans (congrArg some (by kernel_rfl))
  t3 := Tryz.underlying3
  a3 := Tryz.isAgg3
  z3 := Tryz.sizeOf3
  v3 := Tryz.zeroValue3
  t4 := Tryz.underlying4
  a4 := Tryz.isAgg4
  z4 := Tryz.sizeOf4
  v4 := Tryz.zeroValue4
  t9 := Tryz.underlying9
  a9 := Tryz.isAgg9
  z9 := Tryz.sizeOf9
  v9 := Tryz.zeroValue9 }
open Go.RowKit Go.Lib in
theorem Tryz.strings_HasPrefix (s p : ByteArray) (w : World) :
    Calls Tryz.prog 29 #[.string s, .string p] w fun e w' => e = .returned (.bool (Lib.hasPrefix s.data.toList p.data.toList)) ∧ w' = w := Any.strings_HasPrefix Tryz.lays99 s p w
end Go.Proofs
