/- Lemmas for TopKeysUpto: Shelf, ShelfB, F5, F6, W5, W12. -/
import Derived.Shelf.Strings.Builder1
import Derived.Shelf.Strings.Trim
import Derived.Shelf.Small.Utf8
import Derived.Shelf.Small.Bits
import Derived.Shelf.Small.Strs
import Derived.Shelf.Strings.BuilderF
import Derived.Shelf.Strings.BuilderK
import Derived.Shelf.Strconv.Itoa0
import Derived.Shelf.Strconv.Itoa1
import Derived.Shelf.LaysM
import Derived.Shelf.Strconv.Itoa2
import Derived.Shelf.Strconv.Itoa3
import Derived.Shelf.Strconv.Itoa4
import Derived.Shelf.Strconv.ParseIntEmpty
import Derived.Shelf.Strconv.Clone
import Derived.Shelf.Strconv.SyntaxError
import Derived.Shelf.LaysC
import Derived.Shelf.Strconv.ToError
import Derived.Shelf.Strconv.Lower
import Derived.Shelf.Strconv.ParseUint10
import Derived.Shelf.Strconv.ParseUint10Empty
import Derived.Shelf.Strconv.ParseUint10Any
import Derived.Shelf.Strconv.ParseInt10
import Derived.Shelf.Strconv.RangeError
import Derived.Shelf.Strconv.ToErrorRange
import Derived.Shelf.Strconv.ParseUintEmpty
import Derived.Shelf.Strconv.ParseUint10b64
import Derived.Shelf.Strconv.ParseUint10b32
import Derived.Shelf.Strconv.ParseUint10b16
import Derived.Shelf.Strconv.ParseUint10b8
import Derived.Shelf.Strconv.ParseUint10At
import Derived.Shelf.Strconv.ParseInt10At64
import Derived.Shelf.Strconv.ParseInt10At32
import Derived.Shelf.Strconv.ParseInt10At16
import Derived.Shelf.Strconv.ParseInt10At8
import Derived.Shelf.Strconv.ParseInt10All
import Derived.Shelf.Strconv.ParseIntPublic10
import Derived.Shelf.Strconv.ErrVarParseInt
import Derived.Shelf.Strings.Search1
import Derived.Shelf.Strings.Search2
import Derived.Shelf.Strings.Search3
import Derived.Shelf.Strings.Count
import Derived.Shelf.Strings.Shaped
import Derived.Shelf.Sort.Plain
import Derived.Shelf.GgClosure.StringsIndexFunc
import Derived.Ground.GgwProg
import Derived.Shelf.GgClosure.StringsIndexFuncTop
import Derived.Shelf.GgClosure.StringsRunes
import Derived.Shelf.Strings.Prefix
import Derived.Shelf.Strings.Split
import Derived.Shelf.Strings.Runes
import Derived.Shelf.Strings.AsciiSet
import Derived.Shelf.Unicode.DecodeSlow
import Derived.Shelf.Unicode.DecodeAny
import Derived.Shelf.Unicode.DecodeLast
import Derived.Shelf.Strings.FieldsFuncAny
import Derived.Shelf.Strings.FuncGrows
import Derived.Shelf.Strings.BuilderCap
import Derived.Shelf.Slices.Turned
import Derived.Ground.Names2Prog
import Derived.Shelf.Slices.Clone
import Derived.Shelf.Slices.CompactS
import Derived.Shelf.Slices.Cells
import Derived.Shelf.Slices.In.SortNone
import Derived.Test.YtlbipokkdiiaiaaGreatDoorProg
import Derived.Test.YtlbipokkdiiaiaaGreatDoorK05
import Derived.Deep.WholeRow
import Derived.OrdersHeld
namespace Go.Proofs
open Go.Shelf
def zfF:Go.Shelf.Ren:=⟨fun|169=>104|n=>n,fun|70=>213|9=>9|0=>0|72=>215|37=>49|127=>274|3=>3|5=>5|n=>n,fun|n=>n⟩
theorem zgl:Go.Proofs.Lays.n169 Tryz.prog zfF:={
 mixed:=by kernel_rfl
 f169:=Tryz.func104.trans (congrArg some (by kernel_rfl))
 t0:=Tryz.underlying0
 a0:=Tryz.isAgg0
 z0:=Tryz.sizeOf0
 v0:=Tryz.zeroValue0
 t3:=Tryz.underlying3
 a3:=Tryz.isAgg3
 z3:=Tryz.sizeOf3
 v3:=Tryz.zeroValue3
 t9:=Tryz.underlying9
 a9:=Tryz.isAgg9
 z9:=Tryz.sizeOf9
 v9:=Tryz.zeroValue9
 t37:=Tryz.underlying49
 a37:=Tryz.isAgg49
 z37:=Tryz.sizeOf49
 v37:=Tryz.zeroValue49
 t70:=Tryz.underlying213
 a70:=Tryz.isAgg213
 z70:=Tryz.sizeOf213
 v70:=Tryz.zeroValue213
 t72:=Tryz.underlying215
 a72:=Tryz.isAgg215
 z72:=Tryz.sizeOf215
 v72:=Tryz.zeroValue215
 t127:=Tryz.underlying274
 a127:=Tryz.isAgg274
 z127:=Tryz.sizeOf274
 v127:=Tryz.zeroValue274}
theorem zfI:Builder.Extra Tryz.prog zfF:={
 sizeBuilder:=by kernel_rfl
 liesBuilder:=by kernel_rfl
 t5:=Tryz.underlying5
 a5:=Tryz.isAgg5
 z5:=Tryz.sizeOf5
 v5:=Tryz.zeroValue5
 infoByte:=by kernel_rfl
 cellsByte:=by kernel_rfl
 sizeByte:=by kernel_rfl
 neB5:=by decide}
def zf3:Go.Shelf.Ren:=⟨fun|137=>187|217=>226|266=>287|n=>n,fun|9=>9|5=>5|3=>3|n=>n,fun|n=>n⟩
theorem zgc:Go.Proofs.Lays.n137 Tryz.prog zf3:={
 mixed:=by kernel_rfl
 f137:=Tryz.func187.trans (congrArg some (by kernel_rfl))
 f217:=Tryz.func226.trans (congrArg some (by kernel_rfl))
 f266:=Tryz.func287.trans (congrArg some (by kernel_rfl))
 t3:=Tryz.underlying3
 a3:=Tryz.isAgg3
 z3:=Tryz.sizeOf3
 v3:=Tryz.zeroValue3
 t5:=Tryz.underlying5
 a5:=Tryz.isAgg5
 z5:=Tryz.sizeOf5
 v5:=Tryz.zeroValue5
 t9:=Tryz.underlying9
 a9:=Tryz.isAgg9
 z9:=Tryz.sizeOf9
 v9:=Tryz.zeroValue9}
open Go.RowKit in
theorem Tryz.strings_IndexByte (s:ByteArray) (c:Int) (w:World):
 Calls Tryz.prog 187 #[.string s,.int .u8 c] w fun e w'=>e=.returned (.int .i64 (Lib.indexByte s.data.toList c.toNat.toUInt8))∧w'=w:=Any.strings_IndexByte zgc s c w
open Go.RowKit in
theorem Tryz.Builder_String_any_k (B b:Nat) (l:List UInt8) (w:World) (h:Lib.IsBuilderF 215 5 B b (Lib.byteCells l) w) (hBw:B≤w.heap.size):
 Calls Tryz.prog 104 #[.pointer (some ⟨b,0,none⟩)] w fun e w'=>e=.returned (.string ⟨l.toArray⟩)∧(Lib.IsBuilderF 215 5 B b (Lib.byteCells l) w'∧Below B w w'∧Lib.OthersKept 5 (some b) w w'):=Any.Builder_String_any_k zgl zfI B b l w h hBw
def zfS:Go.Shelf.Ren:=⟨fun|171=>102|243=>152|246=>172|283=>212|284=>213|285=>214|286=>215|129=>237|317=>269|318=>270|319=>271|320=>272|337=>307|338=>308|n=>n,fun|3=>3|9=>9|2=>2|4=>4|171=>342|0=>0|53=>29|37=>49|5=>5|173=>345|212=>390|51=>250|20=>20|213=>391|46=>184|232=>30|233=>440|n=>n,fun|17=>1|18=>6|19=>7|n=>n⟩
theorem zga:Go.Proofs.LaysM.n171 Tryz.prog zfS:={
 mixed:=by kernel_rfl
 f129:=Tryz.func237.trans (congrArg some (by kernel_rfl))
 f171:=Tryz.func102.trans (congrArg some (by kernel_rfl))
 f243:=Tryz.func152.trans (congrArg some (by kernel_rfl))
 f246:=Tryz.func172.trans (congrArg some (by kernel_rfl))
 f283:=Tryz.func212.trans (congrArg some (by kernel_rfl))
 f284:=Tryz.func213.trans (congrArg some (by kernel_rfl))
 f285:=Tryz.func214.trans (congrArg some (by kernel_rfl))
 f286:=Tryz.func215.trans (congrArg some (by kernel_rfl))
 f317:=Tryz.func269.trans (congrArg some (by kernel_rfl))
 f318:=Tryz.func270.trans (congrArg some (by kernel_rfl))
 f319:=Tryz.func271.trans (congrArg some (by kernel_rfl))
 f320:=Tryz.func272.trans (congrArg some (by kernel_rfl))
 f337:=Tryz.func307.trans (congrArg some (by kernel_rfl))
 f338:=Tryz.func308.trans (congrArg some (by kernel_rfl))
 t0:=Tryz.underlying0
 a0:=Tryz.isAgg0
 z0:=Tryz.sizeOf0
 v0:=Tryz.zeroValue0
 t2:=Tryz.underlying2
 a2:=Tryz.isAgg2
 z2:=Tryz.sizeOf2
 v2:=Tryz.zeroValue2
 t3:=Tryz.underlying3
 a3:=Tryz.isAgg3
 z3:=Tryz.sizeOf3
 v3:=Tryz.zeroValue3
 t4:=Tryz.underlying4
 a4:=Tryz.isAgg4
 z4:=Tryz.sizeOf4
 v4:=Tryz.zeroValue4
 t5:=Tryz.underlying5
 a5:=Tryz.isAgg5
 z5:=Tryz.sizeOf5
 v5:=Tryz.zeroValue5
 t9:=Tryz.underlying9
 a9:=Tryz.isAgg9
 z9:=Tryz.sizeOf9
 v9:=Tryz.zeroValue9
 t20:=Tryz.underlying20
 a20:=Tryz.isAgg20
 z20:=Tryz.sizeOf20
 v20:=Tryz.zeroValue20
 t37:=Tryz.underlying49
 a37:=Tryz.isAgg49
 z37:=Tryz.sizeOf49
 v37:=Tryz.zeroValue49
 t46:=Tryz.underlying184
 a46:=Tryz.isAgg184
 z46:=Tryz.sizeOf184
 v46:=Tryz.zeroValue184
 t51:=Tryz.underlying250
 a51:=Tryz.isAgg250
 z51:=Tryz.sizeOf250
 v51:=Tryz.zeroValue250
 t53:=Tryz.underlying29
 a53:=Tryz.isAgg29
 z53:=Tryz.sizeOf29
 v53:=Tryz.zeroValue29
 t171:=Tryz.underlying342
 a171:=Tryz.isAgg342
 z171:=Tryz.sizeOf342
 v171:=Tryz.zeroValue342
 t173:=Tryz.underlying345
 a173:=Tryz.isAgg345
 z173:=Tryz.sizeOf345
 v173:=Tryz.zeroValue345
 t212:=Tryz.underlying390
 a212:=Tryz.isAgg390
 z212:=Tryz.sizeOf390
 v212:=Tryz.zeroValue390
 t213:=Tryz.underlying391
 a213:=Tryz.isAgg391
 z213:=Tryz.sizeOf391
 t232:=Tryz.underlying30
 a232:=Tryz.isAgg30
 z232:=Tryz.sizeOf30
 v232:=Tryz.zeroValue30
 t233:=Tryz.underlying440
 a233:=Tryz.isAgg440
 z233:=Tryz.sizeOf440
 v233:=Tryz.zeroValue440
 g17:=by kernel_rfl
 g18:=by kernel_rfl
 g19:=by kernel_rfl
 i0:=by kernel_rfl
 i2:=by kernel_rfl
 i3:=by kernel_rfl
 i4:=by kernel_rfl
 i5:=by kernel_rfl
 i9:=by kernel_rfl
 i20:=by kernel_rfl
 i37:=by kernel_rfl
 i46:=by kernel_rfl
 i51:=by kernel_rfl
 i53:=by kernel_rfl
 i171:=by kernel_rfl
 i173:=by kernel_rfl
 i212:=by kernel_rfl
 i232:=by kernel_rfl
 i233:=by kernel_rfl
 m17:=by kernel_rfl
 m18:=by kernel_rfl
 m19:=by kernel_rfl}
open Go.RowKit Go.Sort Go.Lib in
theorem Tryz.strconv_Itoa (n:Int) (h0: -9223372036854775808≤n) (h1:n≤9223372036854775807) (w:World) (htab:Lib.TabIs Tryz.prog w "internal/strconv.uint64pow10" .u64 Lib.pow10Tab):
 Calls Tryz.prog 102 #[.int .i64 n] w fun e w'=>e=.returned (.string ⟨(Lib.itoa n).toArray⟩)∧∃k os,w'=grow (w.drewN k) os:=Any.strconv_Itoa zga n h0 h1 w htab
open Go.RowKit Go.Sort Go.Lib in
open Go.RowKit in
def zfZ:Go.Shelf.Ren:=⟨fun|143=>185|219=>224|217=>226|225=>284|224=>285|267=>286|266=>287|314=>318|n=>n,fun|9=>9|3=>3|4=>4|5=>5|46=>184|146=>426|51=>250|n=>n,fun|1=>0|n=>n⟩
theorem zfM:Go.Proofs.Lays.n143 Tryz.prog zfZ:={
 mixed:=by kernel_rfl
 f143:=Tryz.func185.trans (congrArg some (by kernel_rfl))
 f217:=Tryz.func226.trans (congrArg some (by kernel_rfl))
 f219:=Tryz.func224.trans (congrArg some (by kernel_rfl))
 f224:=Tryz.func285.trans (congrArg some (by kernel_rfl))
 f225:=Tryz.func284.trans (congrArg some (by kernel_rfl))
 f266:=Tryz.func287.trans (congrArg some (by kernel_rfl))
 f267:=Tryz.func286.trans (congrArg some (by kernel_rfl))
 f314:=Tryz.func318.trans (congrArg some (by kernel_rfl))
 t3:=Tryz.underlying3
 a3:=Tryz.isAgg3
 z3:=Tryz.sizeOf3
 v3:=Tryz.zeroValue3
 t4:=Tryz.underlying4
 a4:=Tryz.isAgg4
 z4:=Tryz.sizeOf4
 v4:=Tryz.zeroValue4
 t5:=Tryz.underlying5
 a5:=Tryz.isAgg5
 z5:=Tryz.sizeOf5
 v5:=Tryz.zeroValue5
 t9:=Tryz.underlying9
 a9:=Tryz.isAgg9
 z9:=Tryz.sizeOf9
 v9:=Tryz.zeroValue9
 t46:=Tryz.underlying184
 a46:=Tryz.isAgg184
 z46:=Tryz.sizeOf184
 v46:=Tryz.zeroValue184
 t51:=Tryz.underlying250
 a51:=Tryz.isAgg250
 z51:=Tryz.sizeOf250
 v51:=Tryz.zeroValue250
 t146:=Tryz.underlying426
 a146:=Tryz.isAgg426
 z146:=Tryz.sizeOf426
 v146:=Tryz.zeroValue426
 g1:=by kernel_rfl}
open Go.RowKit Go.Lib in
theorem Tryz.strings_Index_one (s:ByteArray) (c:UInt8) (w:World):
 Calls Tryz.prog 185 #[.string s,.string ⟨#[c]⟩] w fun e w'=>e=.returned (.int .i64 (Lib.indexByte s.data.toList c))∧w'=w:=Any.strings_Index_one zfM s c w
def zfR:Go.Shelf.Ren:=⟨fun|17=>143|15=>186|20=>225|n=>n,fun|9=>9|23=>271|4=>4|3=>3|0=>0|21=>21|n=>n,fun|n=>n⟩
theorem zf8:Go.Proofs.LaysGw.n17 Tryz.prog zfR:={
 mixed:=by kernel_rfl
 f15:=Tryz.func186.trans (congrArg some (by kernel_rfl))
 f17:=Tryz.func143.trans (congrArg some (by kernel_rfl))
 f20:=Tryz.func225.trans (congrArg some (by kernel_rfl))
 t0:=Tryz.underlying0
 a0:=Tryz.isAgg0
 z0:=Tryz.sizeOf0
 v0:=Tryz.zeroValue0
 i0:=by kernel_rfl
 t3:=Tryz.underlying3
 a3:=Tryz.isAgg3
 z3:=Tryz.sizeOf3
 v3:=Tryz.zeroValue3
 i3:=by kernel_rfl
 t4:=Tryz.underlying4
 a4:=Tryz.isAgg4
 z4:=Tryz.sizeOf4
 v4:=Tryz.zeroValue4
 i4:=by kernel_rfl
 t9:=Tryz.underlying9
 a9:=Tryz.isAgg9
 z9:=Tryz.sizeOf9
 v9:=Tryz.zeroValue9
 i9:=by kernel_rfl
 t21:=Tryz.underlying21
 a21:=Tryz.isAgg21
 z21:=Tryz.sizeOf21
 v21:=Tryz.zeroValue21
 i21:=by kernel_rfl
 t23:=Tryz.underlying271
 a23:=Tryz.isAgg271
 z23:=Tryz.sizeOf271
 v23:=Tryz.zeroValue271
 i23:=by kernel_rfl}
def zf6:Go.Shelf.Ren:=⟨fun|99=>131|206=>177|n=>n,fun|9=>9|4=>4|3=>3|n=>n,fun|n=>n⟩
theorem zgo:Go.Proofs.Lays.n99 Tryz.prog zf6:={
 mixed:=by kernel_rfl
 f99:=Tryz.func131.trans (congrArg some (by kernel_rfl))
 f206:=Tryz.func177.trans (congrArg some (by kernel_rfl))
 t3:=Tryz.underlying3
 a3:=Tryz.isAgg3
 z3:=Tryz.sizeOf3
 v3:=Tryz.zeroValue3
 t4:=Tryz.underlying4
 a4:=Tryz.isAgg4
 z4:=Tryz.sizeOf4
 v4:=Tryz.zeroValue4
 t9:=Tryz.underlying9
 a9:=Tryz.isAgg9
 z9:=Tryz.sizeOf9
 v9:=Tryz.zeroValue9}
open Go.RowKit Go.Lib in
theorem Tryz.strings_HasPrefix (s p:ByteArray) (w:World):
 Calls Tryz.prog 131 #[.string s,.string p] w fun e w'=>e=.returned (.bool (Lib.hasPrefix s.data.toList p.data.toList))∧w'=w:=Any.strings_HasPrefix zgo s p w
open Go.RowKit Go.Lib in
theorem Tryz.strings_ContainsFunc_grows (g:Nat) (lb:Array Value) (eg:∀args w,(callFunc g args).run Tryz.prog w=.ok (.enter g args) w) (p:Nat→Bool) (s:ByteArray) (w:World) (hp:PredGrows Tryz.prog g lb p w):
 Calls Tryz.prog 143 #[.string s,.func (.func g) #[] lb] w fun e w'=>e=.returned (.bool (decide (0≤Lib.idxFunc p true s)))∧Below w.heap.size w w':=Any.strings_ContainsFunc_grows zf8 g lb eg p s w hp
def zf0:Go.Shelf.Ren:=⟨fun|160=>302|232=>322|231=>321|227=>323|234=>325|233=>324|236=>327|235=>326|228=>330|271=>332|151=>331|197=>184|120=>334|152=>333|260=>223|137=>187|119=>335|224=>285|225=>284|217=>226|266=>287|n=>n,fun|9=>9|4=>4|3=>3|5=>5|117=>435|116=>434|0=>0|124=>438|21=>21|105=>309|46=>184|119=>403|139=>406|138=>405|n=>n,fun|3=>2|4=>3|n=>n⟩
theorem zgj:Go.Proofs.Lays.n160 Tryz.prog zf0:={
 mixed:=by kernel_rfl
 f119:=Tryz.func335.trans (congrArg some (by kernel_rfl))
 f120:=Tryz.func334.trans (congrArg some (by kernel_rfl))
 f137:=Tryz.func187.trans (congrArg some (by kernel_rfl))
 f151:=Tryz.func331.trans (congrArg some (by kernel_rfl))
 f152:=Tryz.func333.trans (congrArg some (by kernel_rfl))
 f160:=Tryz.func302.trans (congrArg some (by kernel_rfl))
 f197:=Tryz.func184.trans (congrArg some (by kernel_rfl))
 f217:=Tryz.func226.trans (congrArg some (by kernel_rfl))
 f224:=Tryz.func285.trans (congrArg some (by kernel_rfl))
 f225:=Tryz.func284.trans (congrArg some (by kernel_rfl))
 f227:=Tryz.func323.trans (congrArg some (by kernel_rfl))
 f228:=Tryz.func330.trans (congrArg some (by kernel_rfl))
 f231:=Tryz.func321.trans (congrArg some (by kernel_rfl))
 f232:=Tryz.func322.trans (congrArg some (by kernel_rfl))
 f233:=Tryz.func324.trans (congrArg some (by kernel_rfl))
 f234:=Tryz.func325.trans (congrArg some (by kernel_rfl))
 f235:=Tryz.func326.trans (congrArg some (by kernel_rfl))
 f236:=Tryz.func327.trans (congrArg some (by kernel_rfl))
 f260:=Tryz.func223.trans (congrArg some (by kernel_rfl))
 f266:=Tryz.func287.trans (congrArg some (by kernel_rfl))
 f271:=Tryz.func332.trans (congrArg some (by kernel_rfl))
 t0:=Tryz.underlying0
 a0:=Tryz.isAgg0
 z0:=Tryz.sizeOf0
 v0:=Tryz.zeroValue0
 t3:=Tryz.underlying3
 a3:=Tryz.isAgg3
 z3:=Tryz.sizeOf3
 v3:=Tryz.zeroValue3
 t4:=Tryz.underlying4
 a4:=Tryz.isAgg4
 z4:=Tryz.sizeOf4
 v4:=Tryz.zeroValue4
 t5:=Tryz.underlying5
 a5:=Tryz.isAgg5
 z5:=Tryz.sizeOf5
 v5:=Tryz.zeroValue5
 t9:=Tryz.underlying9
 a9:=Tryz.isAgg9
 z9:=Tryz.sizeOf9
 v9:=Tryz.zeroValue9
 t21:=Tryz.underlying21
 a21:=Tryz.isAgg21
 z21:=Tryz.sizeOf21
 v21:=Tryz.zeroValue21
 t46:=Tryz.underlying184
 a46:=Tryz.isAgg184
 z46:=Tryz.sizeOf184
 v46:=Tryz.zeroValue184
 t105:=Tryz.underlying309
 a105:=Tryz.isAgg309
 z105:=Tryz.sizeOf309
 v105:=Tryz.zeroValue309
 t116:=Tryz.underlying434
 a116:=Tryz.isAgg434
 z116:=Tryz.sizeOf434
 t117:=Tryz.underlying435
 a117:=Tryz.isAgg435
 z117:=Tryz.sizeOf435
 v117:=Tryz.zeroValue435
 t119:=Tryz.underlying403
 a119:=Tryz.isAgg403
 z119:=Tryz.sizeOf403
 t124:=Tryz.underlying438
 a124:=Tryz.isAgg438
 z124:=Tryz.sizeOf438
 v124:=Tryz.zeroValue438
 t138:=Tryz.underlying405
 a138:=Tryz.isAgg405
 z138:=Tryz.sizeOf405
 v138:=Tryz.zeroValue405
 t139:=Tryz.underlying406
 a139:=Tryz.isAgg406
 z139:=Tryz.sizeOf406
 v139:=Tryz.zeroValue406
 g3:=by kernel_rfl
 g4:=by kernel_rfl}
open Go.RowKit in
theorem Tryz.strings_Trim_one (s:ByteArray) (c:UInt8) (hc:c.toNat<128) (w:World) (hs:s.size≤9223372036854775807):
 Calls Tryz.prog 302 #[.string s,.string ⟨#[c]⟩] w fun e w'=>e=.returned (.string ⟨(Lib.trimB s.data.toList c).toArray⟩)∧(w'=w∨w'=w.drew):=Any.strings_Trim_one zgj s c hc w hs
def zfQ:Go.Shelf.Ren:=⟨fun|316=>311|n=>n,fun|9=>9|3=>3|4=>4|37=>49|0=>0|127=>274|5=>5|n=>n,fun|n=>n⟩
theorem zf9:Go.Proofs.LaysM.n316 Tryz.prog zfQ:={
 mixed:=by kernel_rfl
 f316:=Tryz.func311.trans (congrArg some (by kernel_rfl))
 t0:=Tryz.underlying0
 a0:=Tryz.isAgg0
 z0:=Tryz.sizeOf0
 v0:=Tryz.zeroValue0
 t3:=Tryz.underlying3
 a3:=Tryz.isAgg3
 z3:=Tryz.sizeOf3
 v3:=Tryz.zeroValue3
 t4:=Tryz.underlying4
 a4:=Tryz.isAgg4
 z4:=Tryz.sizeOf4
 v4:=Tryz.zeroValue4
 t9:=Tryz.underlying9
 a9:=Tryz.isAgg9
 z9:=Tryz.sizeOf9
 v9:=Tryz.zeroValue9
 t37:=Tryz.underlying49
 a37:=Tryz.isAgg49
 z37:=Tryz.sizeOf49
 v37:=Tryz.zeroValue49
 t127:=Tryz.underlying274
 a127:=Tryz.isAgg274
 z127:=Tryz.sizeOf274
 v127:=Tryz.zeroValue274
 t5:=Tryz.underlying5
 a5:=Tryz.isAgg5
 z5:=Tryz.sizeOf5
 v5:=Tryz.zeroValue5
 i0:=by kernel_rfl
 i3:=by kernel_rfl
 i4:=by kernel_rfl
 i5:=by kernel_rfl
 i9:=by kernel_rfl
 i37:=by kernel_rfl
 i127:=by kernel_rfl}
open Go.RowKit in
theorem Tryz.stringslite_Clone (s:ByteArray) (w:World) (hlim:s.size≤281474976710656):
 Calls Tryz.prog 311 #[.string s] w fun e w'=>e=.returned (.string s)∧Below w.heap.size w w':=Any.stringslite_Clone zf9 s w hlim
open Go.RowKit Go.Lib in
theorem Tryz.strings_Index (s sub:ByteArray) (m:Int) (w:World) (hs:s.size<4294967281) (hm:w.cell? ⟨0,0,none⟩=some (.int .i64 m)):
 Calls Tryz.prog 185 #[.string s,.string sub] w fun e w'=>e=.returned (.int .i64 (Lib.index s.data.toList sub.data.toList))∧w'=w:=Any.strings_Index zfM s sub m w hs hm
def zf5:Go.Shelf.Ren:=⟨fun|144=>248|143=>185|219=>224|217=>226|225=>284|224=>285|267=>286|266=>287|314=>318|n=>n,fun|9=>9|4=>4|3=>3|5=>5|46=>184|146=>426|51=>250|n=>n,fun|1=>0|n=>n⟩
theorem zgf:Go.Proofs.Lays.n144 Tryz.prog zf5:={
 mixed:=by kernel_rfl
 f143:=Tryz.func185.trans (congrArg some (by kernel_rfl))
 f144:=Tryz.func248.trans (congrArg some (by kernel_rfl))
 f217:=Tryz.func226.trans (congrArg some (by kernel_rfl))
 f219:=Tryz.func224.trans (congrArg some (by kernel_rfl))
 f224:=Tryz.func285.trans (congrArg some (by kernel_rfl))
 f225:=Tryz.func284.trans (congrArg some (by kernel_rfl))
 f266:=Tryz.func287.trans (congrArg some (by kernel_rfl))
 f267:=Tryz.func286.trans (congrArg some (by kernel_rfl))
 f314:=Tryz.func318.trans (congrArg some (by kernel_rfl))
 t3:=Tryz.underlying3
 a3:=Tryz.isAgg3
 z3:=Tryz.sizeOf3
 v3:=Tryz.zeroValue3
 t4:=Tryz.underlying4
 a4:=Tryz.isAgg4
 z4:=Tryz.sizeOf4
 v4:=Tryz.zeroValue4
 t5:=Tryz.underlying5
 a5:=Tryz.isAgg5
 z5:=Tryz.sizeOf5
 v5:=Tryz.zeroValue5
 t9:=Tryz.underlying9
 a9:=Tryz.isAgg9
 z9:=Tryz.sizeOf9
 v9:=Tryz.zeroValue9
 t46:=Tryz.underlying184
 a46:=Tryz.isAgg184
 z46:=Tryz.sizeOf184
 v46:=Tryz.zeroValue184
 t51:=Tryz.underlying250
 a51:=Tryz.isAgg250
 z51:=Tryz.sizeOf250
 v51:=Tryz.zeroValue250
 t146:=Tryz.underlying426
 a146:=Tryz.isAgg426
 z146:=Tryz.sizeOf426
 v146:=Tryz.zeroValue426
 g1:=by kernel_rfl}
open Go.RowKit Go.Lib in
theorem Tryz.strings_Contains (s sub:ByteArray) (m:Int) (w:World) (hs:s.size<4294967281) (hm:w.cell? ⟨0,0,none⟩=some (.int .i64 m)):
 Calls Tryz.prog 248 #[.string s,.string sub] w fun e w'=>e=.returned (.bool (Lib.contains s.data.toList sub.data.toList))∧w'=w:=Any.strings_Contains zgf s sub m w hs hm
def zf2:Go.Shelf.Ren:=⟨fun|190=>148|125=>190|258=>189|128=>236|129=>237|302=>227|303=>228|304=>229|305=>230|306=>231|307=>232|308=>233|309=>234|310=>235|333=>288|329=>289|330=>290|334=>291|335=>292|336=>293|344=>319|n=>n,fun|31=>46|9=>9|3=>3|46=>184|0=>0|51=>250|53=>29|4=>4|183=>357|182=>356|131=>234|5=>5|218=>407|222=>411|228=>428|229=>429|n=>n,fun|n=>n⟩
theorem zfO:Go.Proofs.Lays.n190 Tryz.prog zf2:={
 mixed:=by kernel_rfl
 f125:=Tryz.func190.trans (congrArg some (by kernel_rfl))
 f128:=Tryz.func236.trans (congrArg some (by kernel_rfl))
 f129:=Tryz.func237.trans (congrArg some (by kernel_rfl))
 f190:=Tryz.func148.trans (congrArg some (by kernel_rfl))
 f258:=Tryz.func189.trans (congrArg some (by kernel_rfl))
 f302:=Tryz.func227.trans (congrArg some (by kernel_rfl))
 f303:=Tryz.func228.trans (congrArg some (by kernel_rfl))
 f304:=Tryz.func229.trans (congrArg some (by kernel_rfl))
 f305:=Tryz.func230.trans (congrArg some (by kernel_rfl))
 f306:=Tryz.func231.trans (congrArg some (by kernel_rfl))
 f307:=Tryz.func232.trans (congrArg some (by kernel_rfl))
 f308:=Tryz.func233.trans (congrArg some (by kernel_rfl))
 f309:=Tryz.func234.trans (congrArg some (by kernel_rfl))
 f310:=Tryz.func235.trans (congrArg some (by kernel_rfl))
 f329:=Tryz.func289.trans (congrArg some (by kernel_rfl))
 f330:=Tryz.func290.trans (congrArg some (by kernel_rfl))
 f333:=Tryz.func288.trans (congrArg some (by kernel_rfl))
 f334:=Tryz.func291.trans (congrArg some (by kernel_rfl))
 f335:=Tryz.func292.trans (congrArg some (by kernel_rfl))
 f336:=Tryz.func293.trans (congrArg some (by kernel_rfl))
 f344:=Tryz.func319.trans (congrArg some (by kernel_rfl))
 t0:=Tryz.underlying0
 a0:=Tryz.isAgg0
 z0:=Tryz.sizeOf0
 v0:=Tryz.zeroValue0
 t3:=Tryz.underlying3
 a3:=Tryz.isAgg3
 z3:=Tryz.sizeOf3
 v3:=Tryz.zeroValue3
 t4:=Tryz.underlying4
 a4:=Tryz.isAgg4
 z4:=Tryz.sizeOf4
 v4:=Tryz.zeroValue4
 t5:=Tryz.underlying5
 a5:=Tryz.isAgg5
 z5:=Tryz.sizeOf5
 v5:=Tryz.zeroValue5
 t9:=Tryz.underlying9
 a9:=Tryz.isAgg9
 z9:=Tryz.sizeOf9
 v9:=Tryz.zeroValue9
 t31:=Tryz.underlying46
 a31:=Tryz.isAgg46
 z31:=Tryz.sizeOf46
 v31:=Tryz.zeroValue46
 t46:=Tryz.underlying184
 a46:=Tryz.isAgg184
 z46:=Tryz.sizeOf184
 v46:=Tryz.zeroValue184
 t51:=Tryz.underlying250
 a51:=Tryz.isAgg250
 z51:=Tryz.sizeOf250
 v51:=Tryz.zeroValue250
 t53:=Tryz.underlying29
 a53:=Tryz.isAgg29
 z53:=Tryz.sizeOf29
 v53:=Tryz.zeroValue29
 t131:=Tryz.underlying234
 a131:=Tryz.isAgg234
 z131:=Tryz.sizeOf234
 v131:=Tryz.zeroValue234
 t182:=Tryz.underlying356
 a182:=Tryz.isAgg356
 z182:=Tryz.sizeOf356
 v182:=Tryz.zeroValue356
 t183:=Tryz.underlying357
 a183:=Tryz.isAgg357
 z183:=Tryz.sizeOf357
 v183:=Tryz.zeroValue357
 t218:=Tryz.underlying407
 a218:=Tryz.isAgg407
 z218:=Tryz.sizeOf407
 v218:=Tryz.zeroValue407
 t222:=Tryz.underlying411
 a222:=Tryz.isAgg411
 z222:=Tryz.sizeOf411
 v222:=Tryz.zeroValue411
 t228:=Tryz.underlying428
 a228:=Tryz.isAgg428
 z228:=Tryz.sizeOf428
 v228:=Tryz.zeroValue428
 t229:=Tryz.underlying429
 a229:=Tryz.isAgg429
 z229:=Tryz.sizeOf429
 v229:=Tryz.zeroValue429}
open Go.Sort Go.RowKit in
theorem Tryz.slices_Sort_string (blk off cap:Nat) (ss:List (List UInt8)) (w:World) (hH:Holds encStr w blk off ss.toArray) (hblk:blk<w.heap.size) (hsz:ss.length<4611686018427387904):
 Calls Tryz.prog 148 #[.slice (some ⟨blk,off,none⟩) ss.length cap] w fun e w'=>
  e=.returned (.tuple #[])∧∃n os,w'=grow (putRow encStr (Sort.ahead w n) blk off (ss.mergeSort fun x y=>decide (x≤y)).toArray) os:=Any.slices_Sort_string zfO blk off cap ss w hH hblk hsz
def zf4:Go.Shelf.Ren:=⟨fun|102=>278|209=>313|207=>329|n=>n,fun|9=>9|4=>4|3=>3|n=>n,fun|n=>n⟩
theorem zgm:Go.Proofs.Lays.n102 Tryz.prog zf4:={
 mixed:=by kernel_rfl
 f102:=Tryz.func278.trans (congrArg some (by kernel_rfl))
 f207:=Tryz.func329.trans (congrArg some (by kernel_rfl))
 f209:=Tryz.func313.trans (congrArg some (by kernel_rfl))
 t3:=Tryz.underlying3
 a3:=Tryz.isAgg3
 z3:=Tryz.sizeOf3
 v3:=Tryz.zeroValue3
 t4:=Tryz.underlying4
 a4:=Tryz.isAgg4
 z4:=Tryz.sizeOf4
 v4:=Tryz.zeroValue4
 t9:=Tryz.underlying9
 a9:=Tryz.isAgg9
 z9:=Tryz.sizeOf9
 v9:=Tryz.zeroValue9}
open Go.RowKit Go.Lib in
theorem Tryz.strings_TrimSuffix (s p:ByteArray) (w:World) (hs:s.size≤9223372036854775807):
 Calls Tryz.prog 278 #[.string s,.string p] w fun e w'=>e=.returned (.string ⟨(Lib.trimSuffix s.data.toList p.data.toList).toArray⟩)∧w'=w:=Any.strings_TrimSuffix zgm s p w hs
def zfX:Go.Shelf.Ren:=⟨fun|146=>179|221=>221|268=>282|138=>283|143=>185|195=>316|197=>184|218=>317|219=>224|260=>223|217=>226|225=>284|224=>285|267=>286|266=>287|314=>318|n=>n,fun|9=>9|31=>46|3=>3|4=>4|0=>0|105=>309|21=>21|5=>5|46=>184|119=>403|139=>406|138=>405|146=>426|51=>250|n=>n,fun|1=>0|3=>2|4=>3|n=>n⟩
theorem zge:Go.Proofs.Lays.n146 Tryz.prog zfX:={
 mixed:=by kernel_rfl
 f138:=Tryz.func283.trans (congrArg some (by kernel_rfl))
 f143:=Tryz.func185.trans (congrArg some (by kernel_rfl))
 f146:=Tryz.func179.trans (congrArg some (by kernel_rfl))
 f195:=Tryz.func316.trans (congrArg some (by kernel_rfl))
 f197:=Tryz.func184.trans (congrArg some (by kernel_rfl))
 f217:=Tryz.func226.trans (congrArg some (by kernel_rfl))
 f218:=Tryz.func317.trans (congrArg some (by kernel_rfl))
 f219:=Tryz.func224.trans (congrArg some (by kernel_rfl))
 f221:=Tryz.func221.trans (congrArg some (by kernel_rfl))
 f224:=Tryz.func285.trans (congrArg some (by kernel_rfl))
 f225:=Tryz.func284.trans (congrArg some (by kernel_rfl))
 f260:=Tryz.func223.trans (congrArg some (by kernel_rfl))
 f266:=Tryz.func287.trans (congrArg some (by kernel_rfl))
 f267:=Tryz.func286.trans (congrArg some (by kernel_rfl))
 f268:=Tryz.func282.trans (congrArg some (by kernel_rfl))
 f314:=Tryz.func318.trans (congrArg some (by kernel_rfl))
 t0:=Tryz.underlying0
 a0:=Tryz.isAgg0
 z0:=Tryz.sizeOf0
 v0:=Tryz.zeroValue0
 t3:=Tryz.underlying3
 a3:=Tryz.isAgg3
 z3:=Tryz.sizeOf3
 v3:=Tryz.zeroValue3
 t4:=Tryz.underlying4
 a4:=Tryz.isAgg4
 z4:=Tryz.sizeOf4
 v4:=Tryz.zeroValue4
 t5:=Tryz.underlying5
 a5:=Tryz.isAgg5
 z5:=Tryz.sizeOf5
 v5:=Tryz.zeroValue5
 t9:=Tryz.underlying9
 a9:=Tryz.isAgg9
 z9:=Tryz.sizeOf9
 v9:=Tryz.zeroValue9
 t21:=Tryz.underlying21
 a21:=Tryz.isAgg21
 z21:=Tryz.sizeOf21
 v21:=Tryz.zeroValue21
 t31:=Tryz.underlying46
 a31:=Tryz.isAgg46
 z31:=Tryz.sizeOf46
 v31:=Tryz.zeroValue46
 t46:=Tryz.underlying184
 a46:=Tryz.isAgg184
 z46:=Tryz.sizeOf184
 v46:=Tryz.zeroValue184
 t51:=Tryz.underlying250
 a51:=Tryz.isAgg250
 z51:=Tryz.sizeOf250
 v51:=Tryz.zeroValue250
 t105:=Tryz.underlying309
 a105:=Tryz.isAgg309
 z105:=Tryz.sizeOf309
 v105:=Tryz.zeroValue309
 t119:=Tryz.underlying403
 a119:=Tryz.isAgg403
 z119:=Tryz.sizeOf403
 t138:=Tryz.underlying405
 a138:=Tryz.isAgg405
 z138:=Tryz.sizeOf405
 v138:=Tryz.zeroValue405
 t139:=Tryz.underlying406
 a139:=Tryz.isAgg406
 z139:=Tryz.sizeOf406
 v139:=Tryz.zeroValue406
 t146:=Tryz.underlying426
 a146:=Tryz.isAgg426
 z146:=Tryz.sizeOf426
 v146:=Tryz.zeroValue426
 g1:=by kernel_rfl
 g3:=by kernel_rfl
 g4:=by kernel_rfl}
open Go.RowKit Go.Lib in
theorem Tryz.strings_Split (s sep:ByteArray) (m:Int) (w:World) (hs:s.size<4294967281) (hm:w.cell? ⟨0,0,none⟩=some (.int .i64 m)) (h1:1≤sep.size):
 Calls Tryz.prog 179 #[.string s,.string sep] w fun e w'=>
  e=.returned (.slice (some ⟨w.heap.size,0,none⟩) (Lib.countB s sep+1) (Lib.countB s sep+1))∧w'=w.alloc (.cells ((Lib.splitB sep 0 (Lib.countB s sep) s).map Value.string).toArray 9):=Any.strings_Split zge (by kernel_rfl) s sep m w hs hm h1
def zf1:Go.Shelf.Ren:=⟨fun|229=>314|n=>n,fun|9=>9|40=>271|31=>46|152=>444|3=>3|0=>0|4=>4|21=>21|154=>446|n=>n,fun|n=>n⟩
theorem zgd:Go.Proofs.Lays.n229 Tryz.prog zf1:={
 mixed:=by kernel_rfl
 f229:=Tryz.func314.trans (congrArg some (by kernel_rfl))
 t0:=Tryz.underlying0
 a0:=Tryz.isAgg0
 z0:=Tryz.sizeOf0
 v0:=Tryz.zeroValue0
 t3:=Tryz.underlying3
 a3:=Tryz.isAgg3
 z3:=Tryz.sizeOf3
 v3:=Tryz.zeroValue3
 t4:=Tryz.underlying4
 a4:=Tryz.isAgg4
 z4:=Tryz.sizeOf4
 v4:=Tryz.zeroValue4
 t9:=Tryz.underlying9
 a9:=Tryz.isAgg9
 z9:=Tryz.sizeOf9
 v9:=Tryz.zeroValue9
 t21:=Tryz.underlying21
 a21:=Tryz.isAgg21
 z21:=Tryz.sizeOf21
 v21:=Tryz.zeroValue21
 t31:=Tryz.underlying46
 a31:=Tryz.isAgg46
 z31:=Tryz.sizeOf46
 v31:=Tryz.zeroValue46
 t40:=Tryz.underlying271
 a40:=Tryz.isAgg271
 z40:=Tryz.sizeOf271
 v40:=Tryz.zeroValue271
 t152:=Tryz.underlying444
 a152:=Tryz.isAgg444
 z152:=Tryz.sizeOf444
 v152:=Tryz.zeroValue444
 t154:=Tryz.underlying446
 a154:=Tryz.isAgg446
 z154:=Tryz.sizeOf446
 v154:=Tryz.zeroValue446}
open Go.RowKit Go.Lib in
theorem Tryz.strings_FieldsFunc_runes (g:Nat) (lb:Array Value) (eg:∀args w,(callFunc g args).run Tryz.prog w=.ok (.enter g args) w) (p:Nat→Bool) (s:ByteArray) (w:World) (hs:s.size≤4294967296) (hp:PredAtRunes Tryz.prog g lb p w):
 Calls Tryz.prog 314 #[.string s,.func (.func g) #[] lb] w fun e w'=>∃A,e=.returned (.slice (some ⟨A,0,none⟩) (Lib.goFieldsP p s).length (Lib.goFieldsP p s).length)∧w.heap.size≤A∧
  w'.ownsRow w.heap.size 9 1 (.slice (some ⟨A,0,none⟩) (Lib.goFieldsP p s).length (Lib.goFieldsP p s).length) (Lib.goFieldsP p s).length ((Lib.goFieldsP p s).map Value.string)∧Below w.heap.size w w':=Any.strings_FieldsFunc_runes zgd g lb eg p s w hs hp (by kernel_rfl) (by kernel_rfl)
def zfY:Go.Shelf.Ren:=⟨fun|194=>99|n=>n,fun|31=>46|9=>9|3=>3|4=>4|0=>0|n=>n,fun|n=>n⟩
theorem zfK:Go.Proofs.Lays.n194 Tryz.prog zfY:={
 mixed:=by kernel_rfl
 f194:=Tryz.func99.trans (congrArg some (by kernel_rfl))
 t0:=Tryz.underlying0
 a0:=Tryz.isAgg0
 z0:=Tryz.sizeOf0
 v0:=Tryz.zeroValue0
 t3:=Tryz.underlying3
 a3:=Tryz.isAgg3
 z3:=Tryz.sizeOf3
 v3:=Tryz.zeroValue3
 t4:=Tryz.underlying4
 a4:=Tryz.isAgg4
 z4:=Tryz.sizeOf4
 v4:=Tryz.zeroValue4
 t9:=Tryz.underlying9
 a9:=Tryz.isAgg9
 z9:=Tryz.sizeOf9
 v9:=Tryz.zeroValue9
 t31:=Tryz.underlying46
 a31:=Tryz.isAgg46
 z31:=Tryz.sizeOf46
 v31:=Tryz.zeroValue46}
open Go.RowKit Go.Lib Go.Sort in
theorem Tryz.slices_Compact_string (blk off cap:Nat) (zs:List (List UInt8)) (w:World) (hH:Holds encStr w blk off zs.toArray) (hsz:zs.length≤9223372036854775807) (hcap:zs.length≤cap):
 Calls Tryz.prog 99 #[.slice (some ⟨blk,off,none⟩) zs.length cap] w fun e w'=>e=.returned (.slice (some ⟨blk,off,none⟩) (Lib.compact zs).length cap)∧∃q,w'=putRow encStr (Sort.ahead w q) blk off (Lib.compact zs++List.replicate (zs.length-(Lib.compact zs).length) []).toArray:=Any.slices_Compact_string zfK blk off cap zs w hH hsz hcap
open Go.RowKit Go.Lib Go.Sort in
theorem Tryz.slices_Compact_string_empty (a:Option Addr) (cap:Nat) (w:World):
 Calls Tryz.prog 99 #[.slice a 0 cap] w fun e w'=>e=.returned (.slice a 0 cap)∧w'=w:=Any.slices_Compact_string_empty zfK a cap w
open Go.RowKit Go.Sort in
theorem Tryz.slices_Sort_string_none (p:Option Addr) (cap:Nat) (w:World):
 Calls Tryz.prog 148 #[.slice p 0 cap] w fun e w'=>e=.returned (.tuple #[])∧w'=w:=Any.slices_Sort_string_none zfO p cap w
end Go.Proofs
namespace Go.Proofs.YtlbipokkdiiaiaaGreatDoor
open Go.RowKit Exec
set_option maxRecDepth 100000
def bE (w:World):Prop:=∃m:Int,w.cell? ⟨0,0,none⟩=some (.int .i64 m)
theorem bE.below {lo w:World} (h:bE lo) (hb:Below lo.heap.size lo w):bE w:=by
 obtain⟨m,h⟩:=h
 exact⟨m,Below.keeps hb h⟩
set_option maxHeartbeats 400000 in
theorem xJ (x:Nat) (hx:x≤1114111) (w:World):Calls Tryz.prog 315 #[.int .i32 (x:Int)] w fun e w'=>e=.returned (.bool (spP x))∧w'=w:=by
 by_cases h1:x=32
 ·subst h1
  go_enter Tryz.func315,Tryz.ntmps315
  go_wp2
  go_ret
  exact⟨rfl,rfl⟩
 ·have e1:((x:Int)==32)=false:=eqF (by omega)
  by_cases h2:x=9
  ·subst h2
   go_enter Tryz.func315,Tryz.ntmps315
   go_wp2
   go_ret
   exact⟨rfl,rfl⟩
  ·have e2:((x:Int)==9)=false:=eqF (by omega)
   have e3:spP x=false:=by simp[spP,h1,h2]
   go_enter Tryz.func315,Tryz.ntmps315
   go_wp2
   go_ret
   exact⟨by rw[e3];rfl,rfl⟩
theorem vb (w:World):Go.Proofs.PredAtRunes Tryz.prog 315 #[] spP w:=by
 intro W x hx _
 exact(xJ x hx W).mono fun _ _ ⟨h,h2⟩=>⟨h,0,h2⟩
theorem tS (s:Txt):(Lib.goFieldsP spP (bs s)).map Value.string=ag (cb s):=by
 unfold ag cb
 rw[List.map_map]
 exact List.map_congr_left fun x _=>congrArg Value.string (kI x).symm
set_option maxHeartbeats 400000 in
theorem fD (s:Txt) (w:World) (hs:s.length≤1000000):
 Calls Tryz.prog 279 #[.string (bs s)] w fun e w'=>∃v,e=.returned v∧w'.ownsRow w.heap.size 9 1 v (cb s).length (ag (cb s))∧Below w.heap.size w w':=by
 have eg:∀args w,(callFunc 315 args).run Tryz.prog w=.ok (.enter 315 args) w:=enters_of Tryz.func315 (by kernel_rfl) rfl
 have HC:=hid (Tryz.strings_FieldsFunc_runes 315 #[] eg spP (bs s) w (by rw[aV];omega) (vb w))
 have hl:(Lib.goFieldsP spP (bs s)).length=(cb s).length:=by unfold cb;rw[List.length_map]
 rw[tS,hl] at HC
 clear hl
 go_enter Tryz.func279,Tryz.ntmps279
 go_wp2_with (go_at_call 314;refine(HC.out).mono ?_;rintro e w' ⟨A,rfl,hA,ho,hb⟩)
 go_ret
 exact⟨_,rfl,ho,hb⟩
theorem tE (s:Txt) (n:Nat):(Lib.splitB (bs [10]) 0 n (bs s)).map Value.string=ag ((Lib.splitB (bs [10]) 0 n (bs s)).map fun x=>x.data.toList):=by
 unfold ag
 rw[List.map_map]
 exact List.map_congr_left fun x _=>congrArg Value.string (kI x).symm
theorem oH (s:Txt):(Lib.trimSuffix s [10]).length≤s.length:=by
 unfold Lib.trimSuffix
 split
 ·rw[List.length_take];omega
 ·exact Nat.le_refl _
theorem qL (s:Txt) (h0:s≠[]):(aq s).length=Lib.countB (bs (Lib.trimSuffix s [10])) (bs [10])+1:=by
 unfold aq
 rw[if_neg h0,List.length_map]
 exact Lib.splitB_all (bs [10]) (by rw[aV];exact Nat.le_refl _) 0 (Lib.countB (bs (Lib.trimSuffix s [10])) (bs [10])) (bs (Lib.trimSuffix s [10])) rfl
theorem bt (s:Txt):(aq s).length≤s.length+1:=by
 by_cases h0:s=[]
 ·subst h0;exact Nat.zero_le _
 ·rw[qL s h0]
  have h1:=Lib.countB_le (bs [10]) (by rw[aV];exact Nat.le_refl _) (bs (Lib.trimSuffix s [10])).size (bs (Lib.trimSuffix s [10])) (Nat.le_refl _)
  rw[aV] at h1
  have:=oH s
  omega
set_option maxHeartbeats 400000 in
theorem bJ (s:Txt) (w:World) (hs:s.length≤1000000) (hm:bE w):
 Calls Tryz.prog 219 #[.string (bs s)] w fun e w'=>∃v,e=.returned v∧w'.ownsRow w.heap.size 9 1 v (aq s).length (ag (aq s))∧Below w.heap.size w w':=by
 by_cases h0:s=[]
 ·subst h0
  go_enter Tryz.func219,Tryz.ntmps219
  go_wp2
  go_ret
  exact⟨_,rfl,World.ownsRow_nil _ _ _ _,Below.refl _ _⟩
 ·obtain⟨m,hm⟩:=hm
  have hT:=hid (show Calls Tryz.prog 278 #[.string (bs s),.string ⟨#[10]⟩] w fun e w'=>e=.returned (.string (bs (Lib.trimSuffix s [10])))∧w'=w from Tryz.strings_TrimSuffix (bs s) (bs [10]) w (by rw[aV];omega))
  have bI:=oH s
  have hl:aq s=(Lib.splitB (bs [10]) 0 (Lib.countB (bs (Lib.trimSuffix s [10])) (bs [10])) (bs (Lib.trimSuffix s [10]))).map fun x=>x.data.toList:=by unfold aq;rw[if_neg h0]
  have hn:=qL s h0
  have hll:=bt s
  have hS:=hid (show Calls Tryz.prog 179 #[.string (bs (Lib.trimSuffix s [10])),.string ⟨#[10]⟩] w fun e w'=>e=.returned (.slice (some ⟨w.heap.size,0,none⟩) (aq s).length (aq s).length)∧w'=w.alloc (.cells (ag (aq s)).toArray 9) from by
   have h1:=Tryz.strings_Split (bs (Lib.trimSuffix s [10])) (bs [10]) m w (by rw[aV];omega) hm (by rw[aV];exact Nat.le_refl _)
   rw[tE,←hl,←hn] at h1
   exact h1)
  have e0:(s==[])=false:=by simpa using h0
  generalize Lib.trimSuffix s [10]=u at *
  clear hl hn bI
  have hown:(w.alloc (.cells (ag (aq s)).toArray 9)).ownsRow w.heap.size 9 1 (.slice (some ⟨w.heap.size,0,none⟩) (aq s).length (aq s).length) (aq s).length (ag (aq s)):=
   ⟨by simp[ag],.inr ⟨w.heap.size,_,_,rfl,Nat.le_refl _,heap_alloc_new w _,Nat.le_refl _,by unfold maxLen;omega,by simp[ag],by rw[Nat.mul_one];exact List.take_of_length_le (by simp[ag])⟩⟩
  generalize aq s=ls at *
  go_enter Tryz.func219,Tryz.ntmps219
  go_wp2_with first|(go_at_call 278;refine(hT.out).mono ?_;rintro e w' ⟨rfl,rfl⟩)|(go_at_call 179;refine(hS.out).mono ?_;rintro e w' ⟨rfl,rfl⟩)
  go_ret
  exact⟨_,rfl,hown,ab _ _⟩
theorem iP (p:Nat→Bool) (s:ByteArray):∀(f pos:Nat) (st:Option Nat) (acc:List (Nat×Nat)),(∀a,st=some a→a<pos∧a<s.size)→(∀x∈acc,x.1<x.2∧x.2≤s.size)→
 (∀x∈(Lib.spansFromP p s f pos st acc).1,x.1<x.2∧x.2≤s.size)∧∀a,(Lib.spansFromP p s f pos st acc).2=some a→a<s.size
 |0,pos,st,acc,h1,h2=>⟨h2,fun a h=>(h1 a h).2⟩
 |f+1,pos,st,acc,h1,h2=>by
  have hw:=Lib.width_pos s pos
  unfold Lib.spansFromP
  split
  ·rename_i aH
   split
   ·cases st with
    |some a=>
     refine iP p s f _ none _ (fun a h=>by cases h) fun x hx=>?_
     simp only[List.mem_append,List.mem_singleton] at hx
     rcases hx with hx|rfl
     ·exact h2 x hx
     ·exact⟨(h1 a rfl).1,Nat.le_of_lt aH⟩
    |none=>exact iP p s f _ none _ (fun a h=>by cases h) h2
   ·cases st with
    |some a=>
     refine iP p s f _ (some a) _ (fun b h=>?_) h2
     cases h
     have:=h1 a rfl
     exact⟨by omega,this.2⟩
    |none=>
     refine iP p s f _ (some pos) _ (fun b h=>?_) h2
     cases h
     exact⟨by omega,aH⟩
  ·exact⟨h2,fun a h=>(h1 a h).2⟩
theorem gG (p:Nat→Bool) (s:ByteArray):∀(f pos:Nat) (st:Option Nat) (acc:List (Nat×Nat)),(Lib.spansFromP p s f pos st acc).1.length≤acc.length+f
 |0,pos,st,acc=>Nat.le_refl _
 |f+1,pos,st,acc=>by
  unfold Lib.spansFromP
  split
  ·split
   ·cases st with
    |some a=>exact Nat.le_trans (gG p s f (pos+(Utf8.decode s pos).2) none (acc++[(a,pos)])) (by rw[List.length_append,List.length_singleton];omega)
    |none=>exact Nat.le_trans (gG p s f (pos+(Utf8.decode s pos).2) none acc) (by omega)
   ·cases st with
    |some a=>exact Nat.le_trans (gG p s f (pos+(Utf8.decode s pos).2) (some a) acc) (by omega)
    |none=>exact Nat.le_trans (gG p s f (pos+(Utf8.decode s pos).2) (some pos) acc) (by omega)
  ·exact Nat.le_add_right _ _
theorem qw (s:Txt):(cb s).length≤s.length+1:=by
 unfold cb Lib.goFieldsP
 rw[List.length_map,List.length_map]
 have h:=gG spP (bs s) (bs s).size 0 none []
 rw[aV] at h
 simp only[List.length_nil] at h
 unfold Lib.spansOfP Lib.closeSpans
 split
 ·rw[List.length_append]
  simp only[List.length_cons,List.length_nil]
  rw[aV]
  omega
 ·rw[aV]
  omega
theorem fd (s:Txt):∀x∈cb s,x≠[]∧x.length≤s.length:=by
 intro x hx
 unfold cb Lib.goFieldsP at hx
 simp only[List.mem_map] at hx
 obtain⟨y,⟨z,hz,rfl⟩,rfl⟩:=hx
 have h:=iP spP (bs s) (bs s).size 0 none [] (fun a h=>by cases h) (fun x hx=>by cases hx)
 have hz2:z.1<z.2∧z.2≤(bs s).size:=by
  unfold Lib.spansOfP Lib.closeSpans at hz
  split at hz
  ·rename_i a ha
   simp only[List.mem_append,List.mem_singleton] at hz
   rcases hz with hz|rfl
   ·exact h.1 z hz
   ·exact⟨h.2 a ha,Nat.le_refl _⟩
  ·exact h.1 z hz
 rw[aV] at hz2
 rw[nW]
 show((s.drop z.1).take (z.2-z.1))≠[]∧((s.drop z.1).take (z.2-z.1)).length≤s.length
 have hl:((s.drop z.1).take (z.2-z.1)).length=z.2-z.1:=by rw[List.length_take,List.length_drop];omega
 exact⟨fun e=>by rw[e] at hl;simp at hl;omega,by omega⟩
theorem qD (sub:Txt) (hs:sub≠[]):∀s:Txt,Lib.index s sub= -1∨∃i:Nat,Lib.index s sub=(i:Int)∧i+sub.length≤s.length
 |[]=>by
  unfold Lib.index
  rw[if_neg (by simpa using hs)]
  exact .inl rfl
 |b::l=>by
  unfold Lib.index
  split
  ·rename_i h
   exact .inr ⟨0,rfl,by have:=(List.isPrefixOf_iff_prefix.1 h).length_le;omega⟩
  ·rcases qD sub hs l with h|⟨i,h,hi⟩
   ·rw[h];exact .inl rfl
   ·refine .inr ⟨i+1,?_,by rw[List.length_cons];omega⟩
    rw[h,if_neg (by simp)]
    rfl
set_option maxHeartbeats 4000000 in
theorem yx (x:Txt) (w:World):
 Calls Tryz.prog 281 #[.string (bs x)] w fun e w'=>e=.returned (.tuple #[.int .i64 ((bR x).1:Int),.bool (bR x).2])∧w'=w:=by
 by_cases hnRead:x=iA
 ·subst hnRead
  skip
  have ht:bR iA=(2,true):=by decide
  rw[ht]
  unfold iA
  go_enter Tryz.func281,Tryz.ntmps281
  go_wp2
  go_ret2
  exact⟨rfl,rfl⟩
 have enRead:=beq_eq_false_iff_ne.2 hnRead
 by_cases hnTry:x=mS
 ·subst hnTry
  clear enRead
  have ht:bR mS=(2,true):=by decide
  rw[ht]
  unfold mS
  go_enter Tryz.func281,Tryz.ntmps281
  go_wp2
  go_ret2
  exact⟨rfl,rfl⟩
 have enTry:=beq_eq_false_iff_ne.2 hnTry
 by_cases hnWrite:x=fj
 ·subst hnWrite
  clear enRead enTry
  have ht:bR fj=(2,true):=by decide
  rw[ht]
  unfold fj
  go_enter Tryz.func281,Tryz.ntmps281
  go_wp2
  go_ret2
  exact⟨rfl,rfl⟩
 have enWrite:=beq_eq_false_iff_ne.2 hnWrite
 by_cases hnScan:x=iq
 ·subst hnScan
  clear enRead enTry enWrite
  have ht:bR iq=(3,true):=by decide
  rw[ht]
  unfold iq
  go_enter Tryz.func281,Tryz.ntmps281
  go_wp2
  go_ret2
  exact⟨rfl,rfl⟩
 have enScan:=beq_eq_false_iff_ne.2 hnScan
 by_cases hnEnv:x=j7
 ·subst hnEnv
  clear enRead enTry enWrite enScan
  have ht:bR j7=(2,false):=by decide
  rw[ht]
  unfold j7
  go_enter Tryz.func281,Tryz.ntmps281
  go_wp2
  go_ret2
  exact⟨rfl,rfl⟩
 have enEnv:=beq_eq_false_iff_ne.2 hnEnv
 by_cases hnKeep:x=dN
 ·subst hnKeep
  clear enRead enTry enWrite enScan enEnv
  have ht:bR dN=(2,false):=by decide
  rw[ht]
  unfold dN
  go_enter Tryz.func281,Tryz.ntmps281
  go_wp2
  go_ret2
  exact⟨rfl,rfl⟩
 have enKeep:=beq_eq_false_iff_ne.2 hnKeep
 by_cases hnNeed:x=fG
 ·subst hnNeed
  clear enRead enTry enWrite enScan enEnv enKeep
  have ht:bR fG=(2,false):=by decide
  rw[ht]
  unfold fG
  go_enter Tryz.func281,Tryz.ntmps281
  go_wp2
  go_ret2
  exact⟨rfl,rfl⟩
 have enNeed:=beq_eq_false_iff_ne.2 hnNeed
 by_cases hnSort:x=dO
 ·subst hnSort
  clear enRead enTry enWrite enScan enEnv enKeep enNeed
  have ht:bR dO=(1,false):=by decide
  rw[ht]
  unfold dO
  go_enter Tryz.func281,Tryz.ntmps281
  go_wp2
  go_ret2
  exact⟨rfl,rfl⟩
 have enSort:=beq_eq_false_iff_ne.2 hnSort
 by_cases hnUniq:x=dM
 ·subst hnUniq
  clear enRead enTry enWrite enScan enEnv enKeep enNeed enSort
  have ht:bR dM=(1,false):=by decide
  rw[ht]
  unfold dM
  go_enter Tryz.func281,Tryz.ntmps281
  go_wp2
  go_ret2
  exact⟨rfl,rfl⟩
 have enUniq:=beq_eq_false_iff_ne.2 hnUniq
 by_cases hnUpper:x=cH
 ·subst hnUpper
  clear enRead enTry enWrite enScan enEnv enKeep enNeed enSort enUniq
  have ht:bR cH=(1,false):=by decide
  rw[ht]
  unfold cH
  go_enter Tryz.func281,Tryz.ntmps281
  go_wp2
  go_ret2
  exact⟨rfl,rfl⟩
 have enUpper:=beq_eq_false_iff_ne.2 hnUpper
 by_cases hnCount:x=cG
 ·subst hnCount
  clear enRead enTry enWrite enScan enEnv enKeep enNeed enSort enUniq enUpper
  have ht:bR cG=(1,false):=by decide
  rw[ht]
  unfold cG
  go_enter Tryz.func281,Tryz.ntmps281
  go_wp2
  go_ret2
  exact⟨rfl,rfl⟩
 have enCount:=beq_eq_false_iff_ne.2 hnCount
 by_cases hnFail:x=iu
 ·subst hnFail
  clear enRead enTry enWrite enScan enEnv enKeep enNeed enSort enUniq enUpper enCount
  have ht:bR iu=(1,false):=by decide
  rw[ht]
  unfold iu
  go_enter Tryz.func281,Tryz.ntmps281
  go_wp2
  go_ret2
  exact⟨rfl,rfl⟩
 have enFail:=beq_eq_false_iff_ne.2 hnFail
 have ht:bR x=(0,false):=by
  unfold bR
  rw[if_neg (by simp only[not_or];exact⟨hnRead,hnTry,hnWrite⟩),if_neg hnScan,if_neg (by simp only[not_or];exact⟨hnEnv,hnKeep,hnNeed⟩),if_neg (by simp only[not_or];exact⟨hnSort,hnUniq,hnUpper,hnCount,hnFail⟩)]
 rw[ht]
 clear ht hnRead hnTry hnWrite hnScan hnEnv hnKeep hnNeed hnSort hnUniq hnUpper hnCount hnFail
 unfold iA mS fj iq j7 dN fG dO dM cH cG iu at *
 go_enter Tryz.func281,Tryz.ntmps281
 go_wp2
 go_ret2
 exact⟨rfl,rfl⟩
noncomputable def pr (ty n:Nat):Bool:=match Tryz.prog.info? ty with|some i=>(match i.zero with|some (.agg z)=>z.size==n|_=>false)|none=>false
theorem j8 {ty n:Nat} (h:pr ty n=true):∃zs:Array Value,zs.size=n∧∀w,(zeroValue ty).run Tryz.prog w=.ok (.agg zs) w:=by
 unfold pr at h
 split at h
 ·rename_i i hi
  split at h
  ·rename_i z hz
   exact⟨z,by simpa using h,fun w=>by simp[zeroValue,typeInfo,hi,hz]⟩
  ·cases h
 ·cases h
theorem eV {ty:TypeId} {zs:Array Value} (w:World) (hz:∀w,(zeroValue ty).run Tryz.prog w=.ok (.agg zs) w):
 (Instr.alloc ty true (.tuple #[])).run Tryz.prog w=.ok (.pointer (some ⟨w.heap.size,0,none⟩)) (w.alloc (.cells zs ty)):=by
 unfold Instr.alloc
 rw[Sem.run_bind,hz w]
 rfl
section
variable {ops:Array Oper} {rest:List Oper} {o o2:Oper} {a:Act} {w:World} {Q:Exit→Act→World→Prop}
theorem sf {w':World} (hr:(execOp a.eval o).run Tryz.prog w=.ok .skip w') (h:wpList Tryz.prog ops Q rest (a.put o.dst undef) w') (hw:Region.wanted o (yielded ops a.tmps)=true:=by rfl):wpList Tryz.prog ops Q (o::rest) a w:=by
 refine wpList_step fun K hK=>?_
 rw[if_pos hw]
 unfold Oper.wp
 rw[hr]
 exact hK _ _ h
theorem eB {ty n:Nat} {xs:Array Value} {x y:Operand} (rt:cY ty n) (hs:xs.size=n) (h1:∀u∈xs.toList,u.oneCell'=true)
 (h:∀W1,Below w.heap.size w W1→W1.heap[w.heap.size]?=some (.cells xs ty (0,0))→W1.heap.size=w.heap.size+1→wpList Tryz.prog ops Q rest ((a.put o.dst (.pointer (some ⟨w.heap.size,0,none⟩))).put o2.dst undef) W1)
 (ho:o.op=.alloc ty:=by rfl) (ho2:o2.op=.store ty x y:=by rfl) (hx:(a.put o.dst (.pointer (some ⟨w.heap.size,0,none⟩))).eval x=.pointer (some ⟨w.heap.size,0,none⟩):=by rfl) (hy:(a.put o.dst (.pointer (some ⟨w.heap.size,0,none⟩))).eval y=.agg xs:=by rfl)
 (hw:Region.wanted o (yielded ops a.tmps)=true:=by rfl) (hw2:Region.wanted o2 (yielded ops (a.put o.dst (.pointer (some ⟨w.heap.size,0,none⟩))).tmps)=true:=by rfl) (hz:pr ty n=true:=by kernel_rfl):
 wpList Tryz.prog ops Q (o::o2::rest) a w:=by
 obtain⟨zs,hzs,hz⟩:=j8 hz
 obtain⟨d,_,_,h3⟩:=rt.out
 refine gw (v:=.pointer (some ⟨w.heap.size,0,none⟩)) (w':=w.alloc (.cells zs ty)) ?_ ?_ hw
 ·unfold execOp
  simp only[ho,Sem.run_bind,eV w hz,Result.andThen_ok,Sem.run_pure]
 ·refine sf (w':=w.alloc (.cells xs ty)) ?_ (h _ (ab w _) (heap_alloc_new w _) (by rw[World.size_alloc])) hw2
  have hst:=run_storeAt_new (P:=Tryz.prog) w ty zs xs (by rw[h3,hs]) (by rw[hzs,hs]) (by rw[←Array.toArray_toList (xs:=xs)];exact all_oneCell_toArray h1)
  unfold execOp
  simp only[ho2,hx,hy,Sem.run_bind,hst,Result.andThen_ok,Sem.run_pure]
theorem cI {ty n:Nat} {xs:Array Value} {x:Operand} (_:cY ty n)
 (h:∀W1,Below w.heap.size w W1→W1.heap[w.heap.size]?=some (.cells xs ty (0,0))→W1.heap.size=w.heap.size+1→wpList Tryz.prog ops Q rest (a.put o.dst (.pointer (some ⟨w.heap.size,0,none⟩))) W1)
 (ho:o.op=.box ty x:=by rfl) (hx:a.eval x=.agg xs:=by rfl) (hw:Region.wanted o (yielded ops a.tmps)=true:=by rfl):
 wpList Tryz.prog ops Q (o::rest) a w:=by
 refine gw (v:=.pointer (some ⟨w.heap.size,0,none⟩)) (w':=w.alloc (.cells xs ty)) ?_ (h _ (ab w _) (heap_alloc_new w _) (by rw[World.size_alloc])) hw
 unfold execOp
 simp only[ho,hx]
 rfl
theorem zbn {ty:Nat} {zs:Array Value} (hz:(Tryz.prog.info? ty).map (·.zero)=some (some (.agg zs)))
 (h:∀W1,Below w.heap.size w W1→W1.heap[w.heap.size]?=some (.cells zs ty (0,0))→W1.heap.size=w.heap.size+1→wpList Tryz.prog ops Q rest (a.put o.dst (.pointer (some ⟨w.heap.size,0,none⟩))) W1)
 (ho:o.op=.alloc ty:=by rfl) (hw:Region.wanted o (yielded ops a.tmps)=true:=by rfl):
 wpList Tryz.prog ops Q (o::rest) a w:=by
 have hz':∀w,(zeroValue ty).run Tryz.prog w=.ok (.agg zs) w:=fun w=>by
  cases hi:Tryz.prog.info? ty with
  |none=>rw[hi] at hz;cases hz
  |some i=>rw[hi] at hz;simp only[Option.map_some,Option.some.injEq] at hz;simp[zeroValue,typeInfo,hi,hz]
 refine gw (v:=.pointer (some ⟨w.heap.size,0,none⟩)) (w':=w.alloc (.cells zs ty)) ?_ (h _ (ab w _) (heap_alloc_new w _) (by rw[World.size_alloc])) hw
 unfold execOp
 simp only[ho,Sem.run_bind,eV w hz',Result.andThen_ok,Sem.run_pure]
theorem iK {ty n:Nat} (_:cY ty n)
 (h:∀(zs:Array Value) (W1:World),zs.size=n→Below w.heap.size w W1→W1.heap[w.heap.size]?=some (.cells zs ty (0,0))→W1.heap.size=w.heap.size+1→wpList Tryz.prog ops Q rest (a.put o.dst (.pointer (some ⟨w.heap.size,0,none⟩))) W1)
 (ho:o.op=.alloc ty:=by rfl) (hw:Region.wanted o (yielded ops a.tmps)=true:=by rfl) (hz:pr ty n=true:=by kernel_rfl):
 wpList Tryz.prog ops Q (o::rest) a w:=by
 obtain⟨zs,hzs,hz⟩:=j8 hz
 refine gw (v:=.pointer (some ⟨w.heap.size,0,none⟩)) (w':=w.alloc (.cells zs ty)) ?_ (h zs _ hzs (ab w _) (heap_alloc_new w _) (by rw[World.size_alloc])) hw
 unfold execOp
 simp only[ho,Sem.run_bind,eV w hz,Result.andThen_ok,Sem.run_pure]
theorem fp {ty n r:Nat} {xs old:Array Value} {x y:Operand} {t:TypeId} (rt:cY ty n) (hr:w.heap[r]?=some (.cells old t (0,0))) (hold:old.size=n) (hs:xs.size=n) (h1:∀u∈xs.toList,u.oneCell'=true)
 (h:∀W1,bg r w W1→W1.heap[r]?=some (.cells xs t (0,0))→W1.heap.size=w.heap.size→wpList Tryz.prog ops Q rest (a.put o.dst undef) W1)
 (ho:o.op=.store ty x y:=by rfl) (hx:a.eval x=.pointer (some ⟨r,0,none⟩):=by rfl) (hy:a.eval y=.agg xs:=by rfl) (hw:Region.wanted o (yielded ops a.tmps)=true:=by rfl):
 wpList Tryz.prog ops Q (o::rest) a w:=by
 obtain⟨d,_,_,h3⟩:=rt.out
 have aH:r<w.heap.size:=(Array.getElem?_eq_some_iff.1 hr).1
 have hst:=run_storeVar_row (P:=Tryz.prog) w r t ty old xs hr (by rw[h3,hs]) (by rw[hold,hs]) (by rw[←Array.toArray_toList (xs:=xs)];exact all_oneCell_toArray h1)
 refine sf (w':=w.setRow r xs) ?_ (h _ ⟨aH,rfl,rfl,rfl,by simp,fun k _ hne=>setRow_other _ _ _ _ hne⟩ (setRow_heap _ _ _ _ _ _ hr) (by simp)) hw
 unfold execOp
 simp only[ho,hx,hy,Instr.storeAt,Instr.sureAddr,Sem.run_bind,Sem.run_pure,Result.andThen_ok,hst]
end
section
variable {P:Program} {md:Region.Mode} {ops:Array Oper} {Q:Exit→Act→World→Prop} {S:World→Prop} {k:Nat}
def fO (P:Program) (md:Region.Mode) (ops:Array Oper) (Q:Exit→Act→World→Prop) (S:World→Prop) (k:Nat):Nat→Array Bool→Act→World→Prop
 |0,listed,a,w=>Region.ready md ops listed=[]∧Q .normal a w
 |fuel+1,listed,a,w=>
  (Region.ready md ops listed=[]→Q .normal a w)∧
  ∀i∈Region.ready md ops listed,wpOp P ops Q i (fun a' w'=>((listed.setIfInBounds i true).getD k false=true∨S w')∧fO P md ops Q S k fuel (listed.setIfInBounds i true) a' w') a w
theorem gi:∀(fuel:Nat) (listed:Array Bool) (a:Act) (w:World),fO P md ops Q S k fuel listed a w→wpAny P md ops Q fuel listed a w
 |0,_,_,_,h=>h
 |fuel+1,_,_,_,h=>⟨h.1,fun i hi=>wpOp_mono (fun a' w' h'=>gi fuel _ a' w' h'.2) (h.2 i hi)⟩
theorem rS {i:Nat} {oi:Oper} {v:Value} (hi:ops[i]?=some oi) (hsel:∀(j:Nat) (o:Oper) cs b,ops[j]?=some o→o.op≠.select cs b)
 (hQ:∀c a w,Q (.panic c) (a.put oi.dst v) w→Q (.panic c) a w)
 (hk:∃ok,ops[k]?=some ok∧∃e∈ok.after,Region.binds md e=true∧e.on=i):
 ∀(fuel:Nat) (listed:Array Bool) (a:Act) (w:World),
  (∀j oj,ops[j]?=some oj→j≠i→listed.getD j true=false→(∀e∈oj.after,Region.binds md e=true→e.on≠i)→oi.apart ops oj=true)→
  i∈Region.ready md ops listed→YieldsIf P ops S oi v a→S w→listed.getD k false=false→k≠i→
  fO P md ops Q S k fuel (listed.setIfInBounds i true) (a.put oi.dst v) w→fO P md ops Q S k (fuel+1) listed a w:=by
 intro fuel
 induction fuel with
 |zero=>
  intro listed a w _ hr hy hS _ _ H
  refine⟨fun h=>(by rw[h] at hr;cases hr),fun j hj=>?_⟩
  by_cases hji:j=i
  ·subst hji;exact hy.wpOp hi hS ⟨.inr hS,H⟩
  ·have:=ready_mono hj hji
   rw[H.1] at this
   cases this
 |succ fuel ih=>
  intro listed a w hfree hr hy hS hkl hki H
  refine⟨fun h=>(by rw[h] at hr;cases hr),fun j hj=>?_⟩
  by_cases hji:j=i
  ·subst hji;exact hy.wpOp hi hS ⟨.inr hS,H⟩
  ·have h1:=H.2 j (ready_mono hj hji)
   obtain⟨hjun,oj,hoj,hall⟩:=mem_ready.1 hj
   have mR:∀e∈oj.after,Region.binds md e=true→e.on≠i:=fun e he hb heq=>by
    have h1:=hall e he hb
    have h0:=(mem_ready.1 hr).1
    rw[heq] at h1
    rcases Nat.lt_or_ge i listed.size with h'|h'
    ·simp[h'] at h0 h1;rw[h0] at h1;cases h1
    ·simp[Array.getElem?_eq_none h'] at h1
   have hjk:j≠k:=fun e=>by
    subst e
    obtain⟨ok,hok,e,he,hb,hon⟩:=hk
    obtain rfl:ok=oj:=Option.some.inj (hok.symm.trans hoj)
    exact mR e he hb hon
   have h2:=wpOp_putIf hoj (hfree j oj hoj hji hjun mR) (fun cs b=>hsel i oi cs b hi) (fun cs b=>hsel j oj cs b hoj) hQ hy h1
   have hfree':∀k ok,ops[k]?=some ok→k≠i→(listed.setIfInBounds j true).getD k true=false→
    (∀e∈ok.after,Region.binds md e=true→e.on≠i)→oi.apart ops ok=true:=fun k ok hk hki hun hno=>by
    refine hfree k ok hk hki ?_ hno
    by_cases hjk:j=k
    ·subst hjk;exact hjun
    ·rw[getD_set_ne true hjk] at hun;exact hun
   have hkj:(listed.setIfInBounds j true).getD k false=false:=by rw[getD_set_ne false hjk];exact hkl
   refine wpOp_mono (fun a' w' h3=>?_) h2
   obtain⟨h4,h5,h6⟩:=h3
   have hS':S w':=by
    rcases h5 with h5|h5
    ·rw[getD_set_ne false hjk,getD_set_ne false (Ne.symm hki),hkl] at h5
     cases h5
    ·exact h5
   refine⟨.inr hS',ih (listed.setIfInBounds j true) a' w' hfree' (ready_mono hr (Ne.symm hji)) h4 hS' hkj hki ?_⟩
   rw[Array.setIfInBounds_comm _ _ hji]
   exact h6
theorem uv {i:Nat} {oi:Oper} {v:Value} (hi:ops[i]?=some oi) (hsel:∀(j:Nat) (o:Oper) cs b,ops[j]?=some o→o.op≠.select cs b)
 (hQ:∀c a w,Q (.panic c) (a.put oi.dst v) w→Q (.panic c) a w):
 ∀(fuel:Nat) (listed:Array Bool) (a:Act) (w:World),
  (∀j oj,ops[j]?=some oj→j≠i→listed.getD j true=false→(∀e∈oj.after,Region.binds md e=true→e.on≠i)→oi.apart ops oj=true)→
  i∈Region.ready md ops listed→YieldsIf P ops (fun _=>True) oi v a→(listed.getD k false=true∨S w)→k≠i→
  fO P md ops Q S k fuel (listed.setIfInBounds i true) (a.put oi.dst v) w→fO P md ops Q S k (fuel+1) listed a w:=by
 intro fuel
 induction fuel with
 |zero=>
  intro listed a w _ hr hy hS hki H
  refine⟨fun h=>(by rw[h] at hr;cases hr),fun j hj=>?_⟩
  by_cases hji:j=i
  ·subst hji;exact hy.wpOp hi trivial ⟨by rw[getD_set_ne false (Ne.symm hki)];exact hS,H⟩
  ·have:=ready_mono hj hji
   rw[H.1] at this
   cases this
 |succ fuel ih=>
  intro listed a w hfree hr hy hS hki H
  refine⟨fun h=>(by rw[h] at hr;cases hr),fun j hj=>?_⟩
  by_cases hji:j=i
  ·subst hji;exact hy.wpOp hi trivial ⟨by rw[getD_set_ne false (Ne.symm hki)];exact hS,H⟩
  ·have h1:=H.2 j (ready_mono hj hji)
   obtain⟨hjun,oj,hoj,hall⟩:=mem_ready.1 hj
   have mR:∀e∈oj.after,Region.binds md e=true→e.on≠i:=fun e he hb heq=>by
    have h1:=hall e he hb
    have h0:=(mem_ready.1 hr).1
    rw[heq] at h1
    rcases Nat.lt_or_ge i listed.size with h'|h'
    ·simp[h'] at h0 h1;rw[h0] at h1;cases h1
    ·simp[Array.getElem?_eq_none h'] at h1
   have h2:=wpOp_putIf hoj (hfree j oj hoj hji hjun mR) (fun cs b=>hsel i oi cs b hi) (fun cs b=>hsel j oj cs b hoj) hQ hy h1
   have hfree':∀k ok,ops[k]?=some ok→k≠i→(listed.setIfInBounds j true).getD k true=false→
    (∀e∈ok.after,Region.binds md e=true→e.on≠i)→oi.apart ops ok=true:=fun k ok hk hki hun hno=>by
    refine hfree k ok hk hki ?_ hno
    by_cases hjk:j=k
    ·subst hjk;exact hjun
    ·rw[getD_set_ne true hjk] at hun;exact hun
   refine wpOp_mono (fun a' w' h3=>?_) h2
   obtain⟨h4,h5,h6⟩:=h3
   rw[Array.setIfInBounds_comm _ _ (Ne.symm hji),getD_set_ne false (Ne.symm hki)] at h5
   refine⟨h5,ih (listed.setIfInBounds j true) a' w' hfree' (ready_mono hr (Ne.symm hji)) h4 h5 hki ?_⟩
   rw[Array.setIfInBounds_comm _ _ hji]
   exact h6
structure WL (P:Program) (ops:Array Oper) (Q:Exit→Act→World→Prop) (S:World→Prop) (k fuel:Nat) (listed:Array Bool) (a:Act) (w:World):Prop where
 out:fO P .any ops Q S k fuel listed a w
variable {fuel:Nat} {listed:Array Bool} {a:Act} {w:World}
theorem aG {id:Nat} {l:List Oper} (S:World→Prop) (k:Nat) (hm:P.follows .mixedOrders=true) (h:∀W,Below w.heap.size w W→WL P l.toArray Q S k l.length (Array.replicate l.length false) a W):(Code.region id l.toArray true).wp P Q a w:=
 wp_region_any hm (gi _ _ _ _ (by simpa using(h w.drew (kU.below ⟨1,rfl⟩)).out))
def waits (ops:Array Oper) (k i:Nat):Bool:=match ops[k]? with|some o=>o.after.any fun e=>Region.binds .any e&&e.on==i|none=>false
theorem fB {i:Nat} (h:waits ops k i=true):∃ok,ops[k]?=some ok∧∃e∈ok.after,Region.binds .any e=true∧e.on=i:=by
 unfold waits at h
 split at h
 ·rename_i o ho
  obtain⟨e,he,h⟩:=Array.any_eq_true'.1 h
  simp only[Bool.and_eq_true,beq_iff_eq] at h
  exact⟨o,ho,e,he,h⟩
 ·cases h
theorem WL.take (i:Nat) (dst:Option Tmp) (v:Value) {oi:Oper} (hS:S w) (h:WL P ops Q S k fuel (listed.setIfInBounds i true) (a.put dst v) w) (hy:YieldsIf P ops S oi v a)
 (hi:ops[i]?=some oi:=by rfl) (hd:oi.dst=dst:=by rfl) (hs:Region.noSelect ops=true:=by kernel_rfl) (hf:Region.free .any ops listed i=true:=by kernel_rfl) (hr:(Region.ready .any ops listed).contains i=true:=by kernel_rfl)
 (hQ:∀c a w,Q (.panic c) (a.put oi.dst v) w→Q (.panic c) a w:=by exact fun _ _ _ h=>h) (hw:waits ops k i=true:=by kernel_rfl) (hkl:listed.getD k false=false:=by kernel_rfl) (hki:k≠i:=by decide):WL P ops Q S k (fuel+1) listed a w:=by
 subst hd
 exact⟨rS hi (Region.noSelect_spec hs) hQ (fB hw) fuel listed a w (Region.free_spec hi hf) (by simpa using hr) hy hS hkl hki h.out⟩
theorem WL.tk (i:Nat) (dst:Option Tmp) (v:Value) {oi:Oper} (hS:S w) (h:WL P ops Q S k fuel (listed.setIfInBounds i true) (a.put dst v) w)
 (hv:∀W,S W→(execOp a.eval oi).run P W=.ok (.value v) W:=by exact fun _ _=>rfl)
 (hi:ops[i]?=some oi:=by rfl) (hd:oi.dst=dst:=by rfl) (hs:Region.noSelect ops=true:=by kernel_rfl) (hf:Region.free .any ops listed i=true:=by kernel_rfl) (hr:(Region.ready .any ops listed).contains i=true:=by kernel_rfl)
 (hQ:∀c a w,Q (.panic c) (a.put oi.dst v) w→Q (.panic c) a w:=by exact fun _ _ _ h=>h) (hwt:Region.wanted oi (yielded ops a.tmps)=true:=by kernel_rfl) (hw:waits ops k i=true:=by kernel_rfl) (hkl:listed.getD k false=false:=by kernel_rfl) (hki:k≠i:=by decide):WL P ops Q S k (fuel+1) listed a w:=
 WL.take i dst v hS h (.inl ⟨hwt,hv⟩) hi hd hs hf hr hQ hw hkl hki
theorem zfs (i:Nat) (dst:Option Tmp) {oi:Oper} (hS:S w) (h:∃v,(∀W,S W→(execOp a.eval oi).run P W=.ok (.value v) W)∧WL P ops Q S k fuel (listed.setIfInBounds i true) (a.put dst v) w)
 (hi:ops[i]?=some oi:=by rfl) (hd:oi.dst=dst:=by rfl) (hs:Region.noSelect ops=true:=by kernel_rfl) (hf:Region.free .any ops listed i=true:=by kernel_rfl) (hr:(Region.ready .any ops listed).contains i=true:=by kernel_rfl)
 (hQ:∀v c a w,Q (.panic c) (a.put oi.dst v) w→Q (.panic c) a w:=by exact fun _ _ _ _ h=>h) (hwt:Region.wanted oi (yielded ops a.tmps)=true:=by kernel_rfl) (hw:waits ops k i=true:=by kernel_rfl) (hkl:listed.getD k false=false:=by kernel_rfl) (hki:k≠i:=by decide):WL P ops Q S k (fuel+1) listed a w:=by
 obtain⟨v,hv,h⟩:=h
 exact WL.take i dst v hS h (.inl ⟨hwt,hv⟩) hi hd hs hf hr (hQ v) hw hkl hki
theorem zfq (i:Nat) (dst:Option Tmp) {oi:Oper} (hS:listed.getD k false=true∨S w) (h:∃v,(∀W,(execOp a.eval oi).run P W=.ok (.value v) W)∧WL P ops Q S k fuel (listed.setIfInBounds i true) (a.put dst v) w)
 (hi:ops[i]?=some oi:=by rfl) (hd:oi.dst=dst:=by rfl) (hs:Region.noSelect ops=true:=by kernel_rfl) (hf:Region.free .any ops listed i=true:=by kernel_rfl) (hr:(Region.ready .any ops listed).contains i=true:=by kernel_rfl)
 (hQ:∀v c a w,Q (.panic c) (a.put oi.dst v) w→Q (.panic c) a w:=by exact fun _ _ _ _ h=>h) (hwt:Region.wanted oi (yielded ops a.tmps)=true:=by kernel_rfl) (hki:k≠i:=by decide):WL P ops Q S k (fuel+1) listed a w:=by
 subst hd
 obtain⟨v,hv,h⟩:=h
 exact⟨uv hi (Region.noSelect_spec hs) (hQ v) fuel listed a w (Region.free_spec hi hf) (by simpa using hr) (.inl ⟨hwt,fun W _=>hv W⟩) hS hki h.out⟩
theorem WL.o (i:Nat) {oi:Oper}
 (h:∀K':Act→World→Prop,Shut (∀a w,((listed.setIfInBounds i true).getD k false=true∨S w)→WL P ops Q S k fuel (listed.setIfInBounds i true) a w→K' a w)→Oper.wp P oi a w K' Q)
 (hi:ops[i]?=some oi:=by rfl) (hr:Region.ready .any ops listed=[i]:=by kernel_rfl) (hw:Region.wanted oi (yielded ops a.tmps)=true:=by kernel_rfl):WL P ops Q S k (fuel+1) listed a w:=
 ⟨⟨fun h0=>absurd (hr▸h0) (by simp),hr▸fun j hj=>by
   obtain rfl:j=i:=by simpa using hj
   exact wpOp_step hi (fun K' hK=>by rw[if_pos hw];exact h K' (fun a w hS hW=>hK a w ⟨hS,hW.out⟩))⟩⟩
theorem WL.d (h:Q .normal a w) (hr:Region.ready .any ops listed=[]:=by kernel_rfl):WL P ops Q S k fuel listed a w:=⟨by
 cases fuel with
 |zero=>exact⟨hr,h⟩
 |succ f=>exact⟨fun _=>h,by rw[hr];simp⟩⟩
end
end Go.Proofs.YtlbipokkdiiaiaaGreatDoor
