/- The shelf's contracts at this dump, in plain words (written by the kit's lay-plain.mjs, cut to what is used). -/
import Derived.Shelf.Strings.Builder1
import Derived.Shelf.Strings.BuilderF
import Derived.Shelf.Strings.BuilderK
import Derived.Shelf.Strconv.Itoa0
import Derived.Shelf.Strconv.Itoa1
import Derived.Shelf.LaysM
import Derived.Shelf.Strconv.Itoa2
import Derived.Shelf.Strconv.Itoa3
import Derived.Shelf.Strconv.Itoa4
import Derived.Shelf.Strconv.ParseIntEmpty
import Derived.Shelf.Strconv.Clone
import Derived.Shelf.Strconv.SyntaxError
import Derived.Shelf.LaysC
import Derived.Shelf.Strconv.ToError
import Derived.Shelf.Strconv.Lower
import Derived.Shelf.Strconv.ParseUint10
import Derived.Shelf.Strconv.ParseUint10Empty
import Derived.Shelf.Strconv.ParseUint10Any
import Derived.Shelf.Strconv.ParseInt10
import Derived.Shelf.Strconv.RangeError
import Derived.Shelf.Strconv.ToErrorRange
import Derived.Shelf.Strconv.ParseUintEmpty
import Derived.Shelf.Strconv.ParseUint10b64
import Derived.Shelf.Strconv.ParseUint10b32
import Derived.Shelf.Strconv.ParseUint10b16
import Derived.Shelf.Strconv.ParseUint10b8
import Derived.Shelf.Strconv.ParseUint10At
import Derived.Shelf.Strconv.ParseInt10At64
import Derived.Shelf.Strconv.ParseInt10At32
import Derived.Shelf.Strconv.ParseInt10At16
import Derived.Shelf.Strconv.ParseInt10At8
import Derived.Shelf.Strconv.ParseInt10All
import Derived.Shelf.Strconv.ParseIntPublic10
import Derived.Shelf.Strconv.ErrVarParseInt
import Derived.Shelf.Strings.BuilderCap
import Derived.Test.YtncdmaolcgpnkaaDoorProg
namespace Go.Proofs
open Go.Shelf
def Tryd.lays169_ren : Go.Shelf.Ren := ⟨fun | 169 => 22 | n => n, fun | 70 => 42 | 9 => 9 | 0 => 0 | 72 => 45 | 37 => 43 | 127 => 59 | 3 => 3 | 5 => 5 | n => n, fun | n => n⟩
theorem Tryd.lays169 : Go.Proofs.Lays.n169 Tryd.prog Tryd.lays169_ren := {
  mixed := by kernel_rfl
  f169 := Tryd.func22.trans (congrArg some (by kernel_rfl))
  t0 := Tryd.underlying0
  a0 := Tryd.isAgg0
  z0 := Tryd.sizeOf0
  v0 := Tryd.zeroValue0
  t3 := Tryd.underlying3
  a3 := Tryd.isAgg3
  z3 := Tryd.sizeOf3
  v3 := Tryd.zeroValue3
  t9 := Tryd.underlying9
  a9 := Tryd.isAgg9
  z9 := Tryd.sizeOf9
  v9 := Tryd.zeroValue9
  t37 := Tryd.underlying43
  a37 := Tryd.isAgg43
  z37 := Tryd.sizeOf43
  v37 := Tryd.zeroValue43
  t70 := Tryd.underlying42
  a70 := Tryd.isAgg42
  z70 := Tryd.sizeOf42
  v70 := Tryd.zeroValue42
  t72 := Tryd.underlying45
  a72 := Tryd.isAgg45
  z72 := Tryd.sizeOf45
  v72 := Tryd.zeroValue45
  t127 := Tryd.underlying59
  a127 := Tryd.isAgg59
  z127 := Tryd.sizeOf59
  v127 := Tryd.zeroValue59 }
theorem Tryd.Builder_Extra_169 : Builder.Extra Tryd.prog Tryd.lays169_ren := {
  sizeBuilder := by kernel_rfl
  liesBuilder := by kernel_rfl
  t5 := Tryd.underlying5
  a5 := Tryd.isAgg5
  z5 := Tryd.sizeOf5
  v5 := Tryd.zeroValue5
  infoByte := by kernel_rfl
  cellsByte := by kernel_rfl
  sizeByte := by kernel_rfl
  neB5 := by decide }
open Go.RowKit in
theorem Tryd.Builder_String_any_k (B b : Nat) (l : List UInt8) (w : World) (h : Lib.IsBuilderF 45 5 B b (Lib.byteCells l) w) (hBw : B ≤ w.heap.size) :
    Calls Tryd.prog 22 #[.pointer (some ⟨b, 0, none⟩)] w fun e w' => e = .returned (.string ⟨l.toArray⟩) ∧ (Lib.IsBuilderF 45 5 B b (Lib.byteCells l) w' ∧ Below B w w' ∧ Lib.OthersKept 5 (some b) w w') := Any.Builder_String_any_k Tryd.lays169 Tryd.Builder_Extra_169 B b l w h hBw
def Tryd.laysM171_ren : Go.Shelf.Ren := ⟨fun | 171 => 20 | 243 => 29 | 246 => 32 | 283 => 39 | 284 => 40 | 285 => 41 | 286 => 42 | 129 => 48 | 317 => 47 | 318 => 49 | 319 => 50 | 320 => 51 | 337 => 52 | 338 => 53 | n => n, fun | 3 => 3 | 9 => 9 | 2 => 2 | 4 => 4 | 171 => 71 | 0 => 0 | 53 => 64 | 37 => 43 | 5 => 5 | 173 => 74 | 212 => 83 | 51 => 84 | 20 => 20 | 213 => 85 | 46 => 67 | 232 => 92 | 233 => 93 | n => n, fun | 17 => 2 | 18 => 3 | 19 => 4 | n => n⟩
theorem Tryd.laysM171 : Go.Proofs.LaysM.n171 Tryd.prog Tryd.laysM171_ren := {
  mixed := by kernel_rfl
  f129 := Tryd.func48.trans (congrArg some (by kernel_rfl))
  f171 := Tryd.func20.trans (congrArg some (by kernel_rfl))
  f243 := Tryd.func29.trans (congrArg some (by kernel_rfl))
  f246 := Tryd.func32.trans (congrArg some (by kernel_rfl))
  f283 := Tryd.func39.trans (congrArg some (by kernel_rfl))
  f284 := Tryd.func40.trans (congrArg some (by kernel_rfl))
  f285 := Tryd.func41.trans (congrArg some (by kernel_rfl))
  f286 := Tryd.func42.trans (congrArg some (by kernel_rfl))
  f317 := Tryd.func47.trans (congrArg some (by kernel_rfl))
  f318 := Tryd.func49.trans (congrArg some (by kernel_rfl))
  f319 := Tryd.func50.trans (congrArg some (by kernel_rfl))
  f320 := Tryd.func51.trans (congrArg some (by kernel_rfl))
  f337 := Tryd.func52.trans (congrArg some (by kernel_rfl))
  f338 := Tryd.func53.trans (congrArg some (by kernel_rfl))
  t0 := Tryd.underlying0
  a0 := Tryd.isAgg0
  z0 := Tryd.sizeOf0
  v0 := Tryd.zeroValue0
  t2 := Tryd.underlying2
  a2 := Tryd.isAgg2
  z2 := Tryd.sizeOf2
  v2 := Tryd.zeroValue2
  t3 := Tryd.underlying3
  a3 := Tryd.isAgg3
  z3 := Tryd.sizeOf3
  v3 := Tryd.zeroValue3
  t4 := Tryd.underlying4
  a4 := Tryd.isAgg4
  z4 := Tryd.sizeOf4
  v4 := Tryd.zeroValue4
  t5 := Tryd.underlying5
  a5 := Tryd.isAgg5
  z5 := Tryd.sizeOf5
  v5 := Tryd.zeroValue5
  t9 := Tryd.underlying9
  a9 := Tryd.isAgg9
  z9 := Tryd.sizeOf9
  v9 := Tryd.zeroValue9
  t20 := Tryd.underlying20
  a20 := Tryd.isAgg20
  z20 := Tryd.sizeOf20
  v20 := Tryd.zeroValue20
  t37 := Tryd.underlying43
  a37 := Tryd.isAgg43
  z37 := Tryd.sizeOf43
  v37 := Tryd.zeroValue43
  t46 := Tryd.underlying67
  a46 := Tryd.isAgg67
  z46 := Tryd.sizeOf67
  v46 := Tryd.zeroValue67
  t51 := Tryd.underlying84
  a51 := Tryd.isAgg84
  z51 := Tryd.sizeOf84
  v51 := Tryd.zeroValue84
  t53 := Tryd.underlying64
  a53 := Tryd.isAgg64
  z53 := Tryd.sizeOf64
  v53 := Tryd.zeroValue64
  t171 := Tryd.underlying71
  a171 := Tryd.isAgg71
  z171 := Tryd.sizeOf71
  v171 := Tryd.zeroValue71
  t173 := Tryd.underlying74
  a173 := Tryd.isAgg74
  z173 := Tryd.sizeOf74
  v173 := Tryd.zeroValue74
  t212 := Tryd.underlying83
  a212 := Tryd.isAgg83
  z212 := Tryd.sizeOf83
  v212 := Tryd.zeroValue83
  t213 := Tryd.underlying85
  a213 := Tryd.isAgg85
  z213 := Tryd.sizeOf85
  t232 := Tryd.underlying92
  a232 := Tryd.isAgg92
  z232 := Tryd.sizeOf92
  v232 := Tryd.zeroValue92
  t233 := Tryd.underlying93
  a233 := Tryd.isAgg93
  z233 := Tryd.sizeOf93
  v233 := Tryd.zeroValue93
  g17 := by kernel_rfl
  g18 := by kernel_rfl
  g19 := by kernel_rfl
  i0 := by kernel_rfl
  i2 := by kernel_rfl
  i3 := by kernel_rfl
  i4 := by kernel_rfl
  i5 := by kernel_rfl
  i9 := by kernel_rfl
  i20 := by kernel_rfl
  i37 := by kernel_rfl
  i46 := by kernel_rfl
  i51 := by kernel_rfl
  i53 := by kernel_rfl
  i171 := by kernel_rfl
  i173 := by kernel_rfl
  i212 := by kernel_rfl
  i232 := by kernel_rfl
  i233 := by kernel_rfl
  m17 := by kernel_rfl
  m18 := by kernel_rfl
  m19 := by kernel_rfl }
open Go.RowKit Go.Sort Go.Lib in
theorem Tryd.strconv_Itoa (n : Int) (h0 : -9223372036854775808 ≤ n) (h1 : n ≤ 9223372036854775807) (w : World) (htab : Lib.TabIs Tryd.prog w "internal/strconv.uint64pow10" .u64 Lib.pow10Tab) :
    Calls Tryd.prog 20 #[.int .i64 n] w fun e w' => e = .returned (.string ⟨(Lib.itoa n).toArray⟩) ∧ ∃ k os, w' = grow (w.drewN k) os := Any.strconv_Itoa Tryd.laysM171 n h0 h1 w htab
def Tryd.laysM173_ren : Go.Shelf.Ren := ⟨fun | 173 => 27 | 246 => 32 | 283 => 39 | 284 => 40 | 285 => 41 | 286 => 42 | 129 => 48 | 317 => 47 | 318 => 49 | 319 => 50 | 320 => 51 | 337 => 52 | 338 => 53 | n => n, fun | 2 => 2 | 3 => 3 | 9 => 9 | 4 => 4 | 171 => 71 | 0 => 0 | 53 => 64 | 37 => 43 | 5 => 5 | 173 => 74 | 212 => 83 | 51 => 84 | 20 => 20 | 213 => 85 | 46 => 67 | 232 => 92 | 233 => 93 | n => n, fun | 17 => 2 | 18 => 3 | 19 => 4 | n => n⟩
theorem Tryd.laysM173 : Go.Proofs.LaysM.n173 Tryd.prog Tryd.laysM173_ren := {
  mixed := by kernel_rfl
  f129 := Tryd.func48.trans (congrArg some (by kernel_rfl))
  f173 := Tryd.func27.trans (congrArg some (by kernel_rfl))
  f246 := Tryd.func32.trans (congrArg some (by kernel_rfl))
  f283 := Tryd.func39.trans (congrArg some (by kernel_rfl))
  f284 := Tryd.func40.trans (congrArg some (by kernel_rfl))
  f285 := Tryd.func41.trans (congrArg some (by kernel_rfl))
  f286 := Tryd.func42.trans (congrArg some (by kernel_rfl))
  f317 := Tryd.func47.trans (congrArg some (by kernel_rfl))
  f318 := Tryd.func49.trans (congrArg some (by kernel_rfl))
  f319 := Tryd.func50.trans (congrArg some (by kernel_rfl))
  f320 := Tryd.func51.trans (congrArg some (by kernel_rfl))
  f337 := Tryd.func52.trans (congrArg some (by kernel_rfl))
  f338 := Tryd.func53.trans (congrArg some (by kernel_rfl))
  t0 := Tryd.underlying0
  a0 := Tryd.isAgg0
  z0 := Tryd.sizeOf0
  v0 := Tryd.zeroValue0
  t2 := Tryd.underlying2
  a2 := Tryd.isAgg2
  z2 := Tryd.sizeOf2
  v2 := Tryd.zeroValue2
  t3 := Tryd.underlying3
  a3 := Tryd.isAgg3
  z3 := Tryd.sizeOf3
  v3 := Tryd.zeroValue3
  t4 := Tryd.underlying4
  a4 := Tryd.isAgg4
  z4 := Tryd.sizeOf4
  v4 := Tryd.zeroValue4
  t5 := Tryd.underlying5
  a5 := Tryd.isAgg5
  z5 := Tryd.sizeOf5
  v5 := Tryd.zeroValue5
  t9 := Tryd.underlying9
  a9 := Tryd.isAgg9
  z9 := Tryd.sizeOf9
  v9 := Tryd.zeroValue9
  t20 := Tryd.underlying20
  a20 := Tryd.isAgg20
  z20 := Tryd.sizeOf20
  v20 := Tryd.zeroValue20
  t37 := Tryd.underlying43
  a37 := Tryd.isAgg43
  z37 := Tryd.sizeOf43
  v37 := Tryd.zeroValue43
  t46 := Tryd.underlying67
  a46 := Tryd.isAgg67
  z46 := Tryd.sizeOf67
  v46 := Tryd.zeroValue67
  t51 := Tryd.underlying84
  a51 := Tryd.isAgg84
  z51 := Tryd.sizeOf84
  v51 := Tryd.zeroValue84
  t53 := Tryd.underlying64
  a53 := Tryd.isAgg64
  z53 := Tryd.sizeOf64
  v53 := Tryd.zeroValue64
  t171 := Tryd.underlying71
  a171 := Tryd.isAgg71
  z171 := Tryd.sizeOf71
  v171 := Tryd.zeroValue71
  t173 := Tryd.underlying74
  a173 := Tryd.isAgg74
  z173 := Tryd.sizeOf74
  v173 := Tryd.zeroValue74
  t212 := Tryd.underlying83
  a212 := Tryd.isAgg83
  z212 := Tryd.sizeOf83
  v212 := Tryd.zeroValue83
  t213 := Tryd.underlying85
  a213 := Tryd.isAgg85
  z213 := Tryd.sizeOf85
  t232 := Tryd.underlying92
  a232 := Tryd.isAgg92
  z232 := Tryd.sizeOf92
  v232 := Tryd.zeroValue92
  t233 := Tryd.underlying93
  a233 := Tryd.isAgg93
  z233 := Tryd.sizeOf93
  v233 := Tryd.zeroValue93
  g17 := by kernel_rfl
  g18 := by kernel_rfl
  g19 := by kernel_rfl
  i0 := by kernel_rfl
  i2 := by kernel_rfl
  i3 := by kernel_rfl
  i4 := by kernel_rfl
  i5 := by kernel_rfl
  i9 := by kernel_rfl
  i20 := by kernel_rfl
  i37 := by kernel_rfl
  i46 := by kernel_rfl
  i51 := by kernel_rfl
  i53 := by kernel_rfl
  i171 := by kernel_rfl
  i173 := by kernel_rfl
  i212 := by kernel_rfl
  i232 := by kernel_rfl
  i233 := by kernel_rfl
  m17 := by kernel_rfl
  m18 := by kernel_rfl
  m19 := by kernel_rfl }
open Go.RowKit Go.Sort Go.Lib in
theorem Tryd.strconv_FormatInt_10 (n : Int) (h0 : -9223372036854775808 ≤ n) (h1 : n ≤ 9223372036854775807) (w : World) (htab : Lib.TabIs Tryd.prog w "internal/strconv.uint64pow10" .u64 Lib.pow10Tab) :
    Calls Tryd.prog 27 #[.int .i64 n, .int .i64 10] w fun e w' => e = .returned (.string ⟨(Lib.itoa n).toArray⟩) ∧ ∃ k os, w' = grow (w.drewN k) os := Any.strconv_FormatInt_10 Tryd.laysM173 n h0 h1 w htab
def Tryd.laysC174_ren : Go.Shelf.Ren := ⟨fun | 174 => 26 | 247 => 30 | 245 => 31 | 287 => 34 | 279 => 35 | 280 => 36 | 281 => 37 | 282 => 38 | 321 => 43 | 322 => 44 | 316 => 45 | 171 => 20 | 205 => 46 | 243 => 29 | 246 => 32 | 283 => 39 | 284 => 40 | 285 => 41 | 286 => 42 | 129 => 48 | 317 => 47 | 318 => 49 | 319 => 50 | 320 => 51 | 337 => 52 | 338 => 53 | n => n, fun | 9 => 9 | 3 => 3 | 2 => 2 | 75 => 47 | 85 => 56 | 4 => 4 | 167 => 63 | 5 => 5 | 53 => 64 | 175 => 65 | 46 => 67 | 168 => 68 | 37 => 43 | 0 => 0 | 210 => 79 | 21 => 21 | 127 => 59 | 145 => 90 | 143 => 88 | 171 => 71 | 173 => 74 | 212 => 83 | 51 => 84 | 20 => 20 | 213 => 85 | 232 => 92 | 233 => 93 | 80 => 52 | n => n, fun | 15 => 0 | 16 => 1 | 17 => 2 | 18 => 3 | 19 => 4 | n => n⟩
theorem Tryd.laysC174 : Go.Proofs.LaysC.n174 Tryd.prog Tryd.laysC174_ren := {
  mixed := by kernel_rfl
  f129 := Tryd.func48.trans (congrArg some (by kernel_rfl))
  f171 := Tryd.func20.trans (congrArg some (by kernel_rfl))
  f174 := Tryd.func26.trans (congrArg some (by kernel_rfl))
  f205 := Tryd.func46.trans (congrArg some (by kernel_rfl))
  f243 := Tryd.func29.trans (congrArg some (by kernel_rfl))
  f245 := Tryd.func31.trans (congrArg some (by kernel_rfl))
  f246 := Tryd.func32.trans (congrArg some (by kernel_rfl))
  f247 := Tryd.func30.trans (congrArg some (by kernel_rfl))
  f279 := Tryd.func35.trans (congrArg some (by kernel_rfl))
  f280 := Tryd.func36.trans (congrArg some (by kernel_rfl))
  f281 := Tryd.func37.trans (congrArg some (by kernel_rfl))
  f282 := Tryd.func38.trans (congrArg some (by kernel_rfl))
  f283 := Tryd.func39.trans (congrArg some (by kernel_rfl))
  f284 := Tryd.func40.trans (congrArg some (by kernel_rfl))
  f285 := Tryd.func41.trans (congrArg some (by kernel_rfl))
  f286 := Tryd.func42.trans (congrArg some (by kernel_rfl))
  f287 := Tryd.func34.trans (congrArg some (by kernel_rfl))
  f316 := Tryd.func45.trans (congrArg some (by kernel_rfl))
  f317 := Tryd.func47.trans (congrArg some (by kernel_rfl))
  f318 := Tryd.func49.trans (congrArg some (by kernel_rfl))
  f319 := Tryd.func50.trans (congrArg some (by kernel_rfl))
  f320 := Tryd.func51.trans (congrArg some (by kernel_rfl))
  f321 := Tryd.func43.trans (congrArg some (by kernel_rfl))
  f322 := Tryd.func44.trans (congrArg some (by kernel_rfl))
  f337 := Tryd.func52.trans (congrArg some (by kernel_rfl))
  f338 := Tryd.func53.trans (congrArg some (by kernel_rfl))
  t0 := Tryd.underlying0
  a0 := Tryd.isAgg0
  z0 := Tryd.sizeOf0
  v0 := Tryd.zeroValue0
  t2 := Tryd.underlying2
  a2 := Tryd.isAgg2
  z2 := Tryd.sizeOf2
  v2 := Tryd.zeroValue2
  t3 := Tryd.underlying3
  a3 := Tryd.isAgg3
  z3 := Tryd.sizeOf3
  v3 := Tryd.zeroValue3
  t4 := Tryd.underlying4
  a4 := Tryd.isAgg4
  z4 := Tryd.sizeOf4
  v4 := Tryd.zeroValue4
  t5 := Tryd.underlying5
  a5 := Tryd.isAgg5
  z5 := Tryd.sizeOf5
  v5 := Tryd.zeroValue5
  t9 := Tryd.underlying9
  a9 := Tryd.isAgg9
  z9 := Tryd.sizeOf9
  v9 := Tryd.zeroValue9
  t20 := Tryd.underlying20
  a20 := Tryd.isAgg20
  z20 := Tryd.sizeOf20
  v20 := Tryd.zeroValue20
  t21 := Tryd.underlying21
  a21 := Tryd.isAgg21
  z21 := Tryd.sizeOf21
  v21 := Tryd.zeroValue21
  t37 := Tryd.underlying43
  a37 := Tryd.isAgg43
  z37 := Tryd.sizeOf43
  v37 := Tryd.zeroValue43
  t46 := Tryd.underlying67
  a46 := Tryd.isAgg67
  z46 := Tryd.sizeOf67
  v46 := Tryd.zeroValue67
  t51 := Tryd.underlying84
  a51 := Tryd.isAgg84
  z51 := Tryd.sizeOf84
  v51 := Tryd.zeroValue84
  t53 := Tryd.underlying64
  a53 := Tryd.isAgg64
  z53 := Tryd.sizeOf64
  v53 := Tryd.zeroValue64
  t75 := Tryd.underlying47
  a75 := Tryd.isAgg47
  z75 := Tryd.sizeOf47
  v75 := Tryd.zeroValue47
  t85 := Tryd.underlying56
  a85 := Tryd.isAgg56
  z85 := Tryd.sizeOf56
  v85 := Tryd.zeroValue56
  t127 := Tryd.underlying59
  a127 := Tryd.isAgg59
  z127 := Tryd.sizeOf59
  v127 := Tryd.zeroValue59
  t143 := Tryd.underlying88
  a143 := Tryd.isAgg88
  z143 := Tryd.sizeOf88
  v143 := Tryd.zeroValue88
  t145 := Tryd.underlying90
  a145 := Tryd.isAgg90
  z145 := Tryd.sizeOf90
  v145 := Tryd.zeroValue90
  t167 := Tryd.underlying63
  a167 := Tryd.isAgg63
  z167 := Tryd.sizeOf63
  v167 := Tryd.zeroValue63
  t168 := Tryd.underlying68
  a168 := Tryd.isAgg68
  z168 := Tryd.sizeOf68
  v168 := Tryd.zeroValue68
  t171 := Tryd.underlying71
  a171 := Tryd.isAgg71
  z171 := Tryd.sizeOf71
  v171 := Tryd.zeroValue71
  t173 := Tryd.underlying74
  a173 := Tryd.isAgg74
  z173 := Tryd.sizeOf74
  v173 := Tryd.zeroValue74
  t175 := Tryd.underlying65
  a175 := Tryd.isAgg65
  z175 := Tryd.sizeOf65
  v175 := Tryd.zeroValue65
  t210 := Tryd.underlying79
  a210 := Tryd.isAgg79
  z210 := Tryd.sizeOf79
  v210 := Tryd.zeroValue79
  t212 := Tryd.underlying83
  a212 := Tryd.isAgg83
  z212 := Tryd.sizeOf83
  v212 := Tryd.zeroValue83
  t213 := Tryd.underlying85
  a213 := Tryd.isAgg85
  z213 := Tryd.sizeOf85
  t232 := Tryd.underlying92
  a232 := Tryd.isAgg92
  z232 := Tryd.sizeOf92
  v232 := Tryd.zeroValue92
  t233 := Tryd.underlying93
  a233 := Tryd.isAgg93
  z233 := Tryd.sizeOf93
  v233 := Tryd.zeroValue93
  g15 := by kernel_rfl
  g16 := by kernel_rfl
  g17 := by kernel_rfl
  g18 := by kernel_rfl
  g19 := by kernel_rfl
  t80 := Tryd.underlying52
  a80 := Tryd.isAgg52
  z80 := Tryd.sizeOf52
  v80 := Tryd.zeroValue52
  i0 := by kernel_rfl
  i2 := by kernel_rfl
  i3 := by kernel_rfl
  i4 := by kernel_rfl
  i5 := by kernel_rfl
  i9 := by kernel_rfl
  i20 := by kernel_rfl
  i21 := by kernel_rfl
  i37 := by kernel_rfl
  i46 := by kernel_rfl
  i51 := by kernel_rfl
  i53 := by kernel_rfl
  i75 := by kernel_rfl
  i80 := by kernel_rfl
  i85 := by kernel_rfl
  i127 := by kernel_rfl
  i143 := by kernel_rfl
  i145 := by kernel_rfl
  i167 := by kernel_rfl
  i168 := by kernel_rfl
  i171 := by kernel_rfl
  i173 := by kernel_rfl
  i175 := by kernel_rfl
  i210 := by kernel_rfl
  i212 := by kernel_rfl
  i232 := by kernel_rfl
  i233 := by kernel_rfl
  m15 := by kernel_rfl
  m16 := by kernel_rfl
  m17 := by kernel_rfl
  m18 := by kernel_rfl
  m19 := by kernel_rfl
  c0 := by kernel_rfl
  c2 := by kernel_rfl
  c3 := by kernel_rfl
  c4 := by kernel_rfl
  c5 := by kernel_rfl
  c9 := by kernel_rfl
  c20 := by kernel_rfl
  c21 := by kernel_rfl
  c37 := by kernel_rfl
  c46 := by kernel_rfl
  c51 := by kernel_rfl
  c53 := by kernel_rfl
  c75 := by kernel_rfl
  c80 := by kernel_rfl
  c85 := by kernel_rfl
  c127 := by kernel_rfl
  c143 := by kernel_rfl
  c145 := by kernel_rfl
  c167 := by kernel_rfl
  c168 := by kernel_rfl
  c171 := by kernel_rfl
  c173 := by kernel_rfl
  c175 := by kernel_rfl
  c210 := by kernel_rfl
  c212 := by kernel_rfl
  c213 := by kernel_rfl
  c232 := by kernel_rfl
  c233 := by kernel_rfl }
open Go.RowKit in
theorem Tryd.strconv_ParseInt_10_at64_ok (s : ByteArray) (hmax : s.size ≤ 9223372036854775806) (v : Int) (h : Lib.parseIntB 64 s.data.toList = .ok v) (w : World) :
    Calls Tryd.prog 26 #[.string s, .int .i64 10, .int .i64 64] w fun e w' => e = .returned (.tuple #[.int .i64 v, .nilIface]) ∧ (w' = w ∨ ∃ t, w' = Lib.bytesWorld w 5 t) := Any.strconv_ParseInt_10_at64_ok Tryd.laysC174 s hmax v h w
end Go.Proofs
