/- Lemmas for TopFoundUpto: ShelfB, F5, F6, W5, W12, W11, W13, W14, W15, W16, TreePlain. -/
import Derived.Shelf.Strings.Builder1
import Derived.Shelf.Strings.Trim
import Derived.Shelf.Small.Utf8
import Derived.Shelf.Small.Bits
import Derived.Shelf.Small.Strs
import Derived.Shelf.Strings.BuilderF
import Derived.Shelf.Strings.BuilderK
import Derived.Shelf.Strconv.Itoa0
import Derived.Shelf.Strconv.Itoa1
import Derived.Shelf.LaysM
import Derived.Shelf.Strconv.Itoa2
import Derived.Shelf.Strconv.Itoa3
import Derived.Shelf.Strconv.Itoa4
import Derived.Shelf.Strconv.ParseIntEmpty
import Derived.Shelf.Strconv.Clone
import Derived.Shelf.Strconv.SyntaxError
import Derived.Shelf.LaysC
import Derived.Shelf.Strconv.ToError
import Derived.Shelf.Strconv.Lower
import Derived.Shelf.Strconv.ParseUint10
import Derived.Shelf.Strconv.ParseUint10Empty
import Derived.Shelf.Strconv.ParseUint10Any
import Derived.Shelf.Strconv.ParseInt10
import Derived.Shelf.Strconv.RangeError
import Derived.Shelf.Strconv.ToErrorRange
import Derived.Shelf.Strconv.ParseUintEmpty
import Derived.Shelf.Strconv.ParseUint10b64
import Derived.Shelf.Strconv.ParseUint10b32
import Derived.Shelf.Strconv.ParseUint10b16
import Derived.Shelf.Strconv.ParseUint10b8
import Derived.Shelf.Strconv.ParseUint10At
import Derived.Shelf.Strconv.ParseInt10At64
import Derived.Shelf.Strconv.ParseInt10At32
import Derived.Shelf.Strconv.ParseInt10At16
import Derived.Shelf.Strconv.ParseInt10At8
import Derived.Shelf.Strconv.ParseInt10All
import Derived.Shelf.Strconv.ParseIntPublic10
import Derived.Shelf.Strconv.ErrVarParseInt
import Derived.Shelf.Strings.Search1
import Derived.Shelf.Strings.Search2
import Derived.Shelf.Strings.Search3
import Derived.Shelf.Strings.Count
import Derived.Shelf.Strings.Shaped
import Derived.Shelf.Sort.Plain
import Derived.Shelf.GgClosure.StringsIndexFunc
import Derived.Ground.GgwProg
import Derived.Shelf.GgClosure.StringsIndexFuncTop
import Derived.Shelf.GgClosure.StringsRunes
import Derived.Shelf.Strings.Prefix
import Derived.Shelf.Strings.Split
import Derived.Shelf.Strings.Runes
import Derived.Shelf.Strings.AsciiSet
import Derived.Shelf.Unicode.DecodeSlow
import Derived.Shelf.Unicode.DecodeAny
import Derived.Shelf.Unicode.DecodeLast
import Derived.Shelf.Strings.FieldsFuncAny
import Derived.Shelf.Strings.FuncGrows
import Derived.Shelf.Strings.BuilderCap
import Derived.Shelf.Slices.Turned
import Derived.Ground.Names2Prog
import Derived.Shelf.Slices.Clone
import Derived.Shelf.Slices.CompactS
import Derived.Shelf.Slices.Cells
import Derived.Shelf.Slices.In.SortNone
import Derived.Test.YtlbipokkdiiaiaaGreatDoorProg
import Derived.Test.YtlbipokkdiiaiaaGreatDoorF05
import Derived.Deep.WholeRow
import Derived.OrdersHeld
import Derived.Lib.SliceRun
import Derived.Lib.Overlaps
import Derived.Lib.AppendZerosOnto
import Derived.Test.YtlbipokkdiiaiaaGreatDoorF01
import Derived.Lib.Strings
namespace Go.Proofs
open Go.Shelf
def zfv:Go.Shelf.Ren:=⟨fun|160=>302|232=>322|231=>321|227=>323|234=>325|233=>324|236=>327|235=>326|228=>330|271=>332|151=>331|197=>184|120=>334|152=>333|260=>223|137=>187|119=>335|224=>285|225=>284|217=>226|266=>287|n=>n,fun|9=>9|4=>4|3=>3|5=>5|117=>435|116=>434|0=>0|124=>438|21=>21|105=>309|46=>184|119=>403|139=>406|138=>405|n=>n,fun|3=>2|4=>3|n=>n⟩
theorem zfM:Go.Proofs.Lays.n160 Tryz.prog zfv:={
 mixed:=by kernel_rfl
 f119:=Tryz.func335.trans (congrArg some (by kernel_rfl))
 f120:=Tryz.func334.trans (congrArg some (by kernel_rfl))
 f137:=Tryz.func187.trans (congrArg some (by kernel_rfl))
 f151:=Tryz.func331.trans (congrArg some (by kernel_rfl))
 f152:=Tryz.func333.trans (congrArg some (by kernel_rfl))
 f160:=Tryz.func302.trans (congrArg some (by kernel_rfl))
 f197:=Tryz.func184.trans (congrArg some (by kernel_rfl))
 f217:=Tryz.func226.trans (congrArg some (by kernel_rfl))
 f224:=Tryz.func285.trans (congrArg some (by kernel_rfl))
 f225:=Tryz.func284.trans (congrArg some (by kernel_rfl))
 f227:=Tryz.func323.trans (congrArg some (by kernel_rfl))
 f228:=Tryz.func330.trans (congrArg some (by kernel_rfl))
 f231:=Tryz.func321.trans (congrArg some (by kernel_rfl))
 f232:=Tryz.func322.trans (congrArg some (by kernel_rfl))
 f233:=Tryz.func324.trans (congrArg some (by kernel_rfl))
 f234:=Tryz.func325.trans (congrArg some (by kernel_rfl))
 f235:=Tryz.func326.trans (congrArg some (by kernel_rfl))
 f236:=Tryz.func327.trans (congrArg some (by kernel_rfl))
 f260:=Tryz.func223.trans (congrArg some (by kernel_rfl))
 f266:=Tryz.func287.trans (congrArg some (by kernel_rfl))
 f271:=Tryz.func332.trans (congrArg some (by kernel_rfl))
 t0:=Tryz.underlying0
 a0:=Tryz.isAgg0
 z0:=Tryz.sizeOf0
 v0:=Tryz.zeroValue0
 t3:=Tryz.underlying3
 a3:=Tryz.isAgg3
 z3:=Tryz.sizeOf3
 v3:=Tryz.zeroValue3
 t4:=Tryz.underlying4
 a4:=Tryz.isAgg4
 z4:=Tryz.sizeOf4
 v4:=Tryz.zeroValue4
 t5:=Tryz.underlying5
 a5:=Tryz.isAgg5
 z5:=Tryz.sizeOf5
 v5:=Tryz.zeroValue5
 t9:=Tryz.underlying9
 a9:=Tryz.isAgg9
 z9:=Tryz.sizeOf9
 v9:=Tryz.zeroValue9
 t21:=Tryz.underlying21
 a21:=Tryz.isAgg21
 z21:=Tryz.sizeOf21
 v21:=Tryz.zeroValue21
 t46:=Tryz.underlying184
 a46:=Tryz.isAgg184
 z46:=Tryz.sizeOf184
 v46:=Tryz.zeroValue184
 t105:=Tryz.underlying309
 a105:=Tryz.isAgg309
 z105:=Tryz.sizeOf309
 v105:=Tryz.zeroValue309
 t116:=Tryz.underlying434
 a116:=Tryz.isAgg434
 z116:=Tryz.sizeOf434
 t117:=Tryz.underlying435
 a117:=Tryz.isAgg435
 z117:=Tryz.sizeOf435
 v117:=Tryz.zeroValue435
 t119:=Tryz.underlying403
 a119:=Tryz.isAgg403
 z119:=Tryz.sizeOf403
 t124:=Tryz.underlying438
 a124:=Tryz.isAgg438
 z124:=Tryz.sizeOf438
 v124:=Tryz.zeroValue438
 t138:=Tryz.underlying405
 a138:=Tryz.isAgg405
 z138:=Tryz.sizeOf405
 v138:=Tryz.zeroValue405
 t139:=Tryz.underlying406
 a139:=Tryz.isAgg406
 z139:=Tryz.sizeOf406
 v139:=Tryz.zeroValue406
 g3:=by kernel_rfl
 g4:=by kernel_rfl}
open Go.RowKit in
theorem Tryz.strings_Trim_one (s:ByteArray) (c:UInt8) (hc:c.toNat<128) (w:World) (hs:s.size≤9223372036854775807):
 Calls Tryz.prog 302 #[.string s,.string ⟨#[c]⟩] w fun e w'=>e=.returned (.string ⟨(Lib.trimB s.data.toList c).toArray⟩)∧(w'=w∨w'=w.drew):=Any.strings_Trim_one zfM s c hc w hs
def zfs:Go.Shelf.Ren:=⟨fun|316=>311|n=>n,fun|9=>9|3=>3|4=>4|37=>49|0=>0|127=>274|5=>5|n=>n,fun|n=>n⟩
theorem zfJ:Go.Proofs.LaysM.n316 Tryz.prog zfs:={
 mixed:=by kernel_rfl
 f316:=Tryz.func311.trans (congrArg some (by kernel_rfl))
 t0:=Tryz.underlying0
 a0:=Tryz.isAgg0
 z0:=Tryz.sizeOf0
 v0:=Tryz.zeroValue0
 t3:=Tryz.underlying3
 a3:=Tryz.isAgg3
 z3:=Tryz.sizeOf3
 v3:=Tryz.zeroValue3
 t4:=Tryz.underlying4
 a4:=Tryz.isAgg4
 z4:=Tryz.sizeOf4
 v4:=Tryz.zeroValue4
 t9:=Tryz.underlying9
 a9:=Tryz.isAgg9
 z9:=Tryz.sizeOf9
 v9:=Tryz.zeroValue9
 t37:=Tryz.underlying49
 a37:=Tryz.isAgg49
 z37:=Tryz.sizeOf49
 v37:=Tryz.zeroValue49
 t127:=Tryz.underlying274
 a127:=Tryz.isAgg274
 z127:=Tryz.sizeOf274
 v127:=Tryz.zeroValue274
 t5:=Tryz.underlying5
 a5:=Tryz.isAgg5
 z5:=Tryz.sizeOf5
 v5:=Tryz.zeroValue5
 i0:=by kernel_rfl
 i3:=by kernel_rfl
 i4:=by kernel_rfl
 i5:=by kernel_rfl
 i9:=by kernel_rfl
 i37:=by kernel_rfl
 i127:=by kernel_rfl}
open Go.RowKit in
theorem Tryz.stringslite_Clone (s:ByteArray) (w:World) (hlim:s.size≤281474976710656):
 Calls Tryz.prog 311 #[.string s] w fun e w'=>e=.returned (.string s)∧Below w.heap.size w w':=Any.stringslite_Clone zfJ s w hlim
open Go.RowKit Go.Lib in
theorem Tryz.strings_Index (s sub:ByteArray) (m:Int) (w:World) (hs:s.size<4294967281) (hm:w.cell? ⟨0,0,none⟩=some (.int .i64 m)):
 Calls Tryz.prog 185 #[.string s,.string sub] w fun e w'=>e=.returned (.int .i64 (Lib.index s.data.toList sub.data.toList))∧w'=w:=Any.strings_Index zfk s sub m w hs hm
def zfE:Go.Shelf.Ren:=⟨fun|144=>248|143=>185|219=>224|217=>226|225=>284|224=>285|267=>286|266=>287|314=>318|n=>n,fun|9=>9|4=>4|3=>3|5=>5|46=>184|146=>426|51=>250|n=>n,fun|1=>0|n=>n⟩
theorem zfV:Go.Proofs.Lays.n144 Tryz.prog zfE:={
 mixed:=by kernel_rfl
 f143:=Tryz.func185.trans (congrArg some (by kernel_rfl))
 f144:=Tryz.func248.trans (congrArg some (by kernel_rfl))
 f217:=Tryz.func226.trans (congrArg some (by kernel_rfl))
 f219:=Tryz.func224.trans (congrArg some (by kernel_rfl))
 f224:=Tryz.func285.trans (congrArg some (by kernel_rfl))
 f225:=Tryz.func284.trans (congrArg some (by kernel_rfl))
 f266:=Tryz.func287.trans (congrArg some (by kernel_rfl))
 f267:=Tryz.func286.trans (congrArg some (by kernel_rfl))
 f314:=Tryz.func318.trans (congrArg some (by kernel_rfl))
 t3:=Tryz.underlying3
 a3:=Tryz.isAgg3
 z3:=Tryz.sizeOf3
 v3:=Tryz.zeroValue3
 t4:=Tryz.underlying4
 a4:=Tryz.isAgg4
 z4:=Tryz.sizeOf4
 v4:=Tryz.zeroValue4
 t5:=Tryz.underlying5
 a5:=Tryz.isAgg5
 z5:=Tryz.sizeOf5
 v5:=Tryz.zeroValue5
 t9:=Tryz.underlying9
 a9:=Tryz.isAgg9
 z9:=Tryz.sizeOf9
 v9:=Tryz.zeroValue9
 t46:=Tryz.underlying184
 a46:=Tryz.isAgg184
 z46:=Tryz.sizeOf184
 v46:=Tryz.zeroValue184
 t51:=Tryz.underlying250
 a51:=Tryz.isAgg250
 z51:=Tryz.sizeOf250
 v51:=Tryz.zeroValue250
 t146:=Tryz.underlying426
 a146:=Tryz.isAgg426
 z146:=Tryz.sizeOf426
 v146:=Tryz.zeroValue426
 g1:=by kernel_rfl}
open Go.RowKit Go.Lib in
theorem Tryz.strings_Contains (s sub:ByteArray) (m:Int) (w:World) (hs:s.size<4294967281) (hm:w.cell? ⟨0,0,none⟩=some (.int .i64 m)):
 Calls Tryz.prog 248 #[.string s,.string sub] w fun e w'=>e=.returned (.bool (Lib.contains s.data.toList sub.data.toList))∧w'=w:=Any.strings_Contains zfV s sub m w hs hm
def zfB:Go.Shelf.Ren:=⟨fun|190=>148|125=>190|258=>189|128=>236|129=>237|302=>227|303=>228|304=>229|305=>230|306=>231|307=>232|308=>233|309=>234|310=>235|333=>288|329=>289|330=>290|334=>291|335=>292|336=>293|344=>319|n=>n,fun|31=>46|9=>9|3=>3|46=>184|0=>0|51=>250|53=>29|4=>4|183=>357|182=>356|131=>234|5=>5|218=>407|222=>411|228=>428|229=>429|n=>n,fun|n=>n⟩
theorem zfj:Go.Proofs.Lays.n190 Tryz.prog zfB:={
 mixed:=by kernel_rfl
 f125:=Tryz.func190.trans (congrArg some (by kernel_rfl))
 f128:=Tryz.func236.trans (congrArg some (by kernel_rfl))
 f129:=Tryz.func237.trans (congrArg some (by kernel_rfl))
 f190:=Tryz.func148.trans (congrArg some (by kernel_rfl))
 f258:=Tryz.func189.trans (congrArg some (by kernel_rfl))
 f302:=Tryz.func227.trans (congrArg some (by kernel_rfl))
 f303:=Tryz.func228.trans (congrArg some (by kernel_rfl))
 f304:=Tryz.func229.trans (congrArg some (by kernel_rfl))
 f305:=Tryz.func230.trans (congrArg some (by kernel_rfl))
 f306:=Tryz.func231.trans (congrArg some (by kernel_rfl))
 f307:=Tryz.func232.trans (congrArg some (by kernel_rfl))
 f308:=Tryz.func233.trans (congrArg some (by kernel_rfl))
 f309:=Tryz.func234.trans (congrArg some (by kernel_rfl))
 f310:=Tryz.func235.trans (congrArg some (by kernel_rfl))
 f329:=Tryz.func289.trans (congrArg some (by kernel_rfl))
 f330:=Tryz.func290.trans (congrArg some (by kernel_rfl))
 f333:=Tryz.func288.trans (congrArg some (by kernel_rfl))
 f334:=Tryz.func291.trans (congrArg some (by kernel_rfl))
 f335:=Tryz.func292.trans (congrArg some (by kernel_rfl))
 f336:=Tryz.func293.trans (congrArg some (by kernel_rfl))
 f344:=Tryz.func319.trans (congrArg some (by kernel_rfl))
 t0:=Tryz.underlying0
 a0:=Tryz.isAgg0
 z0:=Tryz.sizeOf0
 v0:=Tryz.zeroValue0
 t3:=Tryz.underlying3
 a3:=Tryz.isAgg3
 z3:=Tryz.sizeOf3
 v3:=Tryz.zeroValue3
 t4:=Tryz.underlying4
 a4:=Tryz.isAgg4
 z4:=Tryz.sizeOf4
 v4:=Tryz.zeroValue4
 t5:=Tryz.underlying5
 a5:=Tryz.isAgg5
 z5:=Tryz.sizeOf5
 v5:=Tryz.zeroValue5
 t9:=Tryz.underlying9
 a9:=Tryz.isAgg9
 z9:=Tryz.sizeOf9
 v9:=Tryz.zeroValue9
 t31:=Tryz.underlying46
 a31:=Tryz.isAgg46
 z31:=Tryz.sizeOf46
 v31:=Tryz.zeroValue46
 t46:=Tryz.underlying184
 a46:=Tryz.isAgg184
 z46:=Tryz.sizeOf184
 v46:=Tryz.zeroValue184
 t51:=Tryz.underlying250
 a51:=Tryz.isAgg250
 z51:=Tryz.sizeOf250
 v51:=Tryz.zeroValue250
 t53:=Tryz.underlying29
 a53:=Tryz.isAgg29
 z53:=Tryz.sizeOf29
 v53:=Tryz.zeroValue29
 t131:=Tryz.underlying234
 a131:=Tryz.isAgg234
 z131:=Tryz.sizeOf234
 v131:=Tryz.zeroValue234
 t182:=Tryz.underlying356
 a182:=Tryz.isAgg356
 z182:=Tryz.sizeOf356
 v182:=Tryz.zeroValue356
 t183:=Tryz.underlying357
 a183:=Tryz.isAgg357
 z183:=Tryz.sizeOf357
 v183:=Tryz.zeroValue357
 t218:=Tryz.underlying407
 a218:=Tryz.isAgg407
 z218:=Tryz.sizeOf407
 v218:=Tryz.zeroValue407
 t222:=Tryz.underlying411
 a222:=Tryz.isAgg411
 z222:=Tryz.sizeOf411
 v222:=Tryz.zeroValue411
 t228:=Tryz.underlying428
 a228:=Tryz.isAgg428
 z228:=Tryz.sizeOf428
 v228:=Tryz.zeroValue428
 t229:=Tryz.underlying429
 a229:=Tryz.isAgg429
 z229:=Tryz.sizeOf429
 v229:=Tryz.zeroValue429}
open Go.Sort Go.RowKit in
theorem Tryz.slices_Sort_string (blk off cap:Nat) (ss:List (List UInt8)) (w:World) (hH:Holds encStr w blk off ss.toArray) (hblk:blk<w.heap.size) (hsz:ss.length<4611686018427387904):
 Calls Tryz.prog 148 #[.slice (some ⟨blk,off,none⟩) ss.length cap] w fun e w'=>
  e=.returned (.tuple #[])∧∃n os,w'=grow (putRow encStr (Sort.ahead w n) blk off (ss.mergeSort fun x y=>decide (x≤y)).toArray) os:=Any.slices_Sort_string zfj blk off cap ss w hH hblk hsz
def zfA:Go.Shelf.Ren:=⟨fun|102=>278|209=>313|207=>329|n=>n,fun|9=>9|4=>4|3=>3|n=>n,fun|n=>n⟩
theorem zfS:Go.Proofs.Lays.n102 Tryz.prog zfA:={
 mixed:=by kernel_rfl
 f102:=Tryz.func278.trans (congrArg some (by kernel_rfl))
 f207:=Tryz.func329.trans (congrArg some (by kernel_rfl))
 f209:=Tryz.func313.trans (congrArg some (by kernel_rfl))
 t3:=Tryz.underlying3
 a3:=Tryz.isAgg3
 z3:=Tryz.sizeOf3
 v3:=Tryz.zeroValue3
 t4:=Tryz.underlying4
 a4:=Tryz.isAgg4
 z4:=Tryz.sizeOf4
 v4:=Tryz.zeroValue4
 t9:=Tryz.underlying9
 a9:=Tryz.isAgg9
 z9:=Tryz.sizeOf9
 v9:=Tryz.zeroValue9}
open Go.RowKit Go.Lib in
theorem Tryz.strings_TrimSuffix (s p:ByteArray) (w:World) (hs:s.size≤9223372036854775807):
 Calls Tryz.prog 278 #[.string s,.string p] w fun e w'=>e=.returned (.string ⟨(Lib.trimSuffix s.data.toList p.data.toList).toArray⟩)∧w'=w:=Any.strings_TrimSuffix zfS s p w hs
def zfD:Go.Shelf.Ren:=⟨fun|146=>179|221=>221|268=>282|138=>283|143=>185|195=>316|197=>184|218=>317|219=>224|260=>223|217=>226|225=>284|224=>285|267=>286|266=>287|314=>318|n=>n,fun|9=>9|31=>46|3=>3|4=>4|0=>0|105=>309|21=>21|5=>5|46=>184|119=>403|139=>406|138=>405|146=>426|51=>250|n=>n,fun|1=>0|3=>2|4=>3|n=>n⟩
theorem zfN:Go.Proofs.Lays.n146 Tryz.prog zfD:={
 mixed:=by kernel_rfl
 f138:=Tryz.func283.trans (congrArg some (by kernel_rfl))
 f143:=Tryz.func185.trans (congrArg some (by kernel_rfl))
 f146:=Tryz.func179.trans (congrArg some (by kernel_rfl))
 f195:=Tryz.func316.trans (congrArg some (by kernel_rfl))
 f197:=Tryz.func184.trans (congrArg some (by kernel_rfl))
 f217:=Tryz.func226.trans (congrArg some (by kernel_rfl))
 f218:=Tryz.func317.trans (congrArg some (by kernel_rfl))
 f219:=Tryz.func224.trans (congrArg some (by kernel_rfl))
 f221:=Tryz.func221.trans (congrArg some (by kernel_rfl))
 f224:=Tryz.func285.trans (congrArg some (by kernel_rfl))
 f225:=Tryz.func284.trans (congrArg some (by kernel_rfl))
 f260:=Tryz.func223.trans (congrArg some (by kernel_rfl))
 f266:=Tryz.func287.trans (congrArg some (by kernel_rfl))
 f267:=Tryz.func286.trans (congrArg some (by kernel_rfl))
 f268:=Tryz.func282.trans (congrArg some (by kernel_rfl))
 f314:=Tryz.func318.trans (congrArg some (by kernel_rfl))
 t0:=Tryz.underlying0
 a0:=Tryz.isAgg0
 z0:=Tryz.sizeOf0
 v0:=Tryz.zeroValue0
 t3:=Tryz.underlying3
 a3:=Tryz.isAgg3
 z3:=Tryz.sizeOf3
 v3:=Tryz.zeroValue3
 t4:=Tryz.underlying4
 a4:=Tryz.isAgg4
 z4:=Tryz.sizeOf4
 v4:=Tryz.zeroValue4
 t5:=Tryz.underlying5
 a5:=Tryz.isAgg5
 z5:=Tryz.sizeOf5
 v5:=Tryz.zeroValue5
 t9:=Tryz.underlying9
 a9:=Tryz.isAgg9
 z9:=Tryz.sizeOf9
 v9:=Tryz.zeroValue9
 t21:=Tryz.underlying21
 a21:=Tryz.isAgg21
 z21:=Tryz.sizeOf21
 v21:=Tryz.zeroValue21
 t31:=Tryz.underlying46
 a31:=Tryz.isAgg46
 z31:=Tryz.sizeOf46
 v31:=Tryz.zeroValue46
 t46:=Tryz.underlying184
 a46:=Tryz.isAgg184
 z46:=Tryz.sizeOf184
 v46:=Tryz.zeroValue184
 t51:=Tryz.underlying250
 a51:=Tryz.isAgg250
 z51:=Tryz.sizeOf250
 v51:=Tryz.zeroValue250
 t105:=Tryz.underlying309
 a105:=Tryz.isAgg309
 z105:=Tryz.sizeOf309
 v105:=Tryz.zeroValue309
 t119:=Tryz.underlying403
 a119:=Tryz.isAgg403
 z119:=Tryz.sizeOf403
 t138:=Tryz.underlying405
 a138:=Tryz.isAgg405
 z138:=Tryz.sizeOf405
 v138:=Tryz.zeroValue405
 t139:=Tryz.underlying406
 a139:=Tryz.isAgg406
 z139:=Tryz.sizeOf406
 v139:=Tryz.zeroValue406
 t146:=Tryz.underlying426
 a146:=Tryz.isAgg426
 z146:=Tryz.sizeOf426
 v146:=Tryz.zeroValue426
 g1:=by kernel_rfl
 g3:=by kernel_rfl
 g4:=by kernel_rfl}
open Go.RowKit Go.Lib in
theorem Tryz.strings_Split (s sep:ByteArray) (m:Int) (w:World) (hs:s.size<4294967281) (hm:w.cell? ⟨0,0,none⟩=some (.int .i64 m)) (h1:1≤sep.size):
 Calls Tryz.prog 179 #[.string s,.string sep] w fun e w'=>
  e=.returned (.slice (some ⟨w.heap.size,0,none⟩) (Lib.countB s sep+1) (Lib.countB s sep+1))∧w'=w.alloc (.cells ((Lib.splitB sep 0 (Lib.countB s sep) s).map Value.string).toArray 9):=Any.strings_Split zfN (by kernel_rfl) s sep m w hs hm h1
def zfy:Go.Shelf.Ren:=⟨fun|229=>314|n=>n,fun|9=>9|40=>271|31=>46|152=>444|3=>3|0=>0|4=>4|21=>21|154=>446|n=>n,fun|n=>n⟩
theorem zfO:Go.Proofs.Lays.n229 Tryz.prog zfy:={
 mixed:=by kernel_rfl
 f229:=Tryz.func314.trans (congrArg some (by kernel_rfl))
 t0:=Tryz.underlying0
 a0:=Tryz.isAgg0
 z0:=Tryz.sizeOf0
 v0:=Tryz.zeroValue0
 t3:=Tryz.underlying3
 a3:=Tryz.isAgg3
 z3:=Tryz.sizeOf3
 v3:=Tryz.zeroValue3
 t4:=Tryz.underlying4
 a4:=Tryz.isAgg4
 z4:=Tryz.sizeOf4
 v4:=Tryz.zeroValue4
 t9:=Tryz.underlying9
 a9:=Tryz.isAgg9
 z9:=Tryz.sizeOf9
 v9:=Tryz.zeroValue9
 t21:=Tryz.underlying21
 a21:=Tryz.isAgg21
 z21:=Tryz.sizeOf21
 v21:=Tryz.zeroValue21
 t31:=Tryz.underlying46
 a31:=Tryz.isAgg46
 z31:=Tryz.sizeOf46
 v31:=Tryz.zeroValue46
 t40:=Tryz.underlying271
 a40:=Tryz.isAgg271
 z40:=Tryz.sizeOf271
 v40:=Tryz.zeroValue271
 t152:=Tryz.underlying444
 a152:=Tryz.isAgg444
 z152:=Tryz.sizeOf444
 v152:=Tryz.zeroValue444
 t154:=Tryz.underlying446
 a154:=Tryz.isAgg446
 z154:=Tryz.sizeOf446
 v154:=Tryz.zeroValue446}
open Go.RowKit Go.Lib in
theorem Tryz.strings_FieldsFunc_runes (g:Nat) (lb:Array Value) (eg:∀args w,(callFunc g args).run Tryz.prog w=.ok (.enter g args) w) (p:Nat→Bool) (s:ByteArray) (w:World) (hs:s.size≤4294967296) (hp:PredAtRunes Tryz.prog g lb p w):
 Calls Tryz.prog 314 #[.string s,.func (.func g) #[] lb] w fun e w'=>∃A,e=.returned (.slice (some ⟨A,0,none⟩) (Lib.goFieldsP p s).length (Lib.goFieldsP p s).length)∧w.heap.size≤A∧
  w'.ownsRow w.heap.size 9 1 (.slice (some ⟨A,0,none⟩) (Lib.goFieldsP p s).length (Lib.goFieldsP p s).length) (Lib.goFieldsP p s).length ((Lib.goFieldsP p s).map Value.string)∧Below w.heap.size w w':=Any.strings_FieldsFunc_runes zfO g lb eg p s w hs hp (by kernel_rfl) (by kernel_rfl)
def zfF:Go.Shelf.Ren:=⟨fun|194=>99|n=>n,fun|31=>46|9=>9|3=>3|4=>4|0=>0|n=>n,fun|n=>n⟩
theorem zfo:Go.Proofs.Lays.n194 Tryz.prog zfF:={
 mixed:=by kernel_rfl
 f194:=Tryz.func99.trans (congrArg some (by kernel_rfl))
 t0:=Tryz.underlying0
 a0:=Tryz.isAgg0
 z0:=Tryz.sizeOf0
 v0:=Tryz.zeroValue0
 t3:=Tryz.underlying3
 a3:=Tryz.isAgg3
 z3:=Tryz.sizeOf3
 v3:=Tryz.zeroValue3
 t4:=Tryz.underlying4
 a4:=Tryz.isAgg4
 z4:=Tryz.sizeOf4
 v4:=Tryz.zeroValue4
 t9:=Tryz.underlying9
 a9:=Tryz.isAgg9
 z9:=Tryz.sizeOf9
 v9:=Tryz.zeroValue9
 t31:=Tryz.underlying46
 a31:=Tryz.isAgg46
 z31:=Tryz.sizeOf46
 v31:=Tryz.zeroValue46}
open Go.RowKit Go.Lib Go.Sort in
theorem Tryz.slices_Compact_string (blk off cap:Nat) (zs:List (List UInt8)) (w:World) (hH:Holds encStr w blk off zs.toArray) (hsz:zs.length≤9223372036854775807) (hcap:zs.length≤cap):
 Calls Tryz.prog 99 #[.slice (some ⟨blk,off,none⟩) zs.length cap] w fun e w'=>e=.returned (.slice (some ⟨blk,off,none⟩) (Lib.compact zs).length cap)∧∃q,w'=putRow encStr (Sort.ahead w q) blk off (Lib.compact zs++List.replicate (zs.length-(Lib.compact zs).length) []).toArray:=Any.slices_Compact_string zfo blk off cap zs w hH hsz hcap
open Go.RowKit Go.Lib Go.Sort in
theorem Tryz.slices_Compact_string_empty (a:Option Addr) (cap:Nat) (w:World):
 Calls Tryz.prog 99 #[.slice a 0 cap] w fun e w'=>e=.returned (.slice a 0 cap)∧w'=w:=Any.slices_Compact_string_empty zfo a cap w
open Go.RowKit Go.Sort in
theorem Tryz.slices_Sort_string_none (p:Option Addr) (cap:Nat) (w:World):
 Calls Tryz.prog 148 #[.slice p 0 cap] w fun e w'=>e=.returned (.tuple #[])∧w'=w:=Any.slices_Sort_string_none zfj p cap w
end Go.Proofs
namespace Go.Proofs.YtlbipokkdiiaiaaGreatDoor
open Go.RowKit Exec
set_option maxRecDepth 100000
def bE (w:World):Prop:=∃m:Int,w.cell? ⟨0,0,none⟩=some (.int .i64 m)
theorem bE.below {lo w:World} (h:bE lo) (hb:Below lo.heap.size lo w):bE w:=by
 obtain⟨m,h⟩:=h
 exact⟨m,Below.keeps hb h⟩
set_option maxHeartbeats 400000 in
theorem ye (x:Nat) (hx:x≤1114111) (w:World):Calls Tryz.prog 315 #[.int .i32 (x:Int)] w fun e w'=>e=.returned (.bool (spP x))∧w'=w:=by
 by_cases h1:x=32
 ·subst h1
  go_enter Tryz.func315,Tryz.ntmps315
  go_wp2
  go_ret
  exact⟨rfl,rfl⟩
 ·have e1:((x:Int)==32)=false:=eqF (by omega)
  by_cases h2:x=9
  ·subst h2
   go_enter Tryz.func315,Tryz.ntmps315
   go_wp2
   go_ret
   exact⟨rfl,rfl⟩
  ·have e2:((x:Int)==9)=false:=eqF (by omega)
   have e3:spP x=false:=by simp[spP,h1,h2]
   go_enter Tryz.func315,Tryz.ntmps315
   go_wp2
   go_ret
   exact⟨by rw[e3];rfl,rfl⟩
theorem uW (w:World):Go.Proofs.PredAtRunes Tryz.prog 315 #[] spP w:=by
 intro W x hx _
 exact(ye x hx W).mono fun _ _ ⟨h,h2⟩=>⟨h,0,h2⟩
theorem sh (s:Txt):(Lib.goFieldsP spP (bs s)).map Value.string=ac (bZ s):=by
 unfold ac bZ
 rw[List.map_map]
 exact List.map_congr_left fun x _=>congrArg Value.string (kr x).symm
set_option maxHeartbeats 400000 in
theorem fG (s:Txt) (w:World) (hs:s.length≤1000000):
 Calls Tryz.prog 279 #[.string (bs s)] w fun e w'=>∃v,e=.returned v∧w'.ownsRow w.heap.size 9 1 v (bZ s).length (ac (bZ s))∧Below w.heap.size w w':=by
 have eg:∀args w,(callFunc 315 args).run Tryz.prog w=.ok (.enter 315 args) w:=enters_of Tryz.func315 (by kernel_rfl) rfl
 have HC:=hid (Tryz.strings_FieldsFunc_runes 315 #[] eg spP (bs s) w (by rw[bf];omega) (uW w))
 have hl:(Lib.goFieldsP spP (bs s)).length=(bZ s).length:=by unfold bZ;rw[List.length_map]
 rw[sh,hl] at HC
 clear hl
 go_enter Tryz.func279,Tryz.ntmps279
 go_wp2_with (go_at_call 314;refine(HC.out).mono ?_;rintro e w' ⟨A,rfl,hA,ho,hb⟩)
 go_ret
 exact⟨_,rfl,ho,hb⟩
theorem ud (s:Txt) (n:Nat):(Lib.splitB (bs [10]) 0 n (bs s)).map Value.string=ac ((Lib.splitB (bs [10]) 0 n (bs s)).map fun x=>x.data.toList):=by
 unfold ac
 rw[List.map_map]
 exact List.map_congr_left fun x _=>congrArg Value.string (kr x).symm
theorem pr (s:Txt):(Lib.trimSuffix s [10]).length≤s.length:=by
 unfold Lib.trimSuffix
 split
 ·rw[List.length_take];omega
 ·exact Nat.le_refl _
theorem qJ (s:Txt) (h0:s≠[]):(ap s).length=Lib.countB (bs (Lib.trimSuffix s [10])) (bs [10])+1:=by
 unfold ap
 rw[if_neg h0,List.length_map]
 exact Lib.splitB_all (bs [10]) (by rw[bf];exact Nat.le_refl _) 0 (Lib.countB (bs (Lib.trimSuffix s [10])) (bs [10])) (bs (Lib.trimSuffix s [10])) rfl
theorem bw (s:Txt):(ap s).length≤s.length+1:=by
 by_cases h0:s=[]
 ·subst h0;exact Nat.zero_le _
 ·rw[qJ s h0]
  have h1:=Lib.countB_le (bs [10]) (by rw[bf];exact Nat.le_refl _) (bs (Lib.trimSuffix s [10])).size (bs (Lib.trimSuffix s [10])) (Nat.le_refl _)
  rw[bf] at h1
  have:=pr s
  omega
set_option maxHeartbeats 400000 in
theorem bI (s:Txt) (w:World) (hs:s.length≤1000000) (hm:bE w):
 Calls Tryz.prog 219 #[.string (bs s)] w fun e w'=>∃v,e=.returned v∧w'.ownsRow w.heap.size 9 1 v (ap s).length (ac (ap s))∧Below w.heap.size w w':=by
 by_cases h0:s=[]
 ·subst h0
  go_enter Tryz.func219,Tryz.ntmps219
  go_wp2
  go_ret
  exact⟨_,rfl,World.ownsRow_nil _ _ _ _,Below.refl _ _⟩
 ·obtain⟨m,hm⟩:=hm
  have hT:=hid (show Calls Tryz.prog 278 #[.string (bs s),.string ⟨#[10]⟩] w fun e w'=>e=.returned (.string (bs (Lib.trimSuffix s [10])))∧w'=w from Tryz.strings_TrimSuffix (bs s) (bs [10]) w (by rw[bf];omega))
  have bY:=pr s
  have hl:ap s=(Lib.splitB (bs [10]) 0 (Lib.countB (bs (Lib.trimSuffix s [10])) (bs [10])) (bs (Lib.trimSuffix s [10]))).map fun x=>x.data.toList:=by unfold ap;rw[if_neg h0]
  have hn:=qJ s h0
  have hll:=bw s
  have hS:=hid (show Calls Tryz.prog 179 #[.string (bs (Lib.trimSuffix s [10])),.string ⟨#[10]⟩] w fun e w'=>e=.returned (.slice (some ⟨w.heap.size,0,none⟩) (ap s).length (ap s).length)∧w'=w.alloc (.cells (ac (ap s)).toArray 9) from by
   have h1:=Tryz.strings_Split (bs (Lib.trimSuffix s [10])) (bs [10]) m w (by rw[bf];omega) hm (by rw[bf];exact Nat.le_refl _)
   rw[ud,←hl,←hn] at h1
   exact h1)
  have e0:(s==[])=false:=by simpa using h0
  generalize Lib.trimSuffix s [10]=u at *
  clear hl hn bY
  have hown:(w.alloc (.cells (ac (ap s)).toArray 9)).ownsRow w.heap.size 9 1 (.slice (some ⟨w.heap.size,0,none⟩) (ap s).length (ap s).length) (ap s).length (ac (ap s)):=
   ⟨by simp[ac],.inr ⟨w.heap.size,_,_,rfl,Nat.le_refl _,heap_alloc_new w _,Nat.le_refl _,by unfold maxLen;omega,by simp[ac],by rw[Nat.mul_one];exact List.take_of_length_le (by simp[ac])⟩⟩
  generalize ap s=ls at *
  go_enter Tryz.func219,Tryz.ntmps219
  go_wp2_with first|(go_at_call 278;refine(hT.out).mono ?_;rintro e w' ⟨rfl,rfl⟩)|(go_at_call 179;refine(hS.out).mono ?_;rintro e w' ⟨rfl,rfl⟩)
  go_ret
  exact⟨_,rfl,hown,ab _ _⟩
theorem iU (p:Nat→Bool) (s:ByteArray):∀(f pos:Nat) (st:Option Nat) (acc:List (Nat×Nat)),(∀a,st=some a→a<pos∧a<s.size)→(∀x∈acc,x.1<x.2∧x.2≤s.size)→
 (∀x∈(Lib.spansFromP p s f pos st acc).1,x.1<x.2∧x.2≤s.size)∧∀a,(Lib.spansFromP p s f pos st acc).2=some a→a<s.size
 |0,pos,st,acc,h1,h2=>⟨h2,fun a h=>(h1 a h).2⟩
 |f+1,pos,st,acc,h1,h2=>by
  have hw:=Lib.width_pos s pos
  unfold Lib.spansFromP
  split
  ·rename_i aK
   split
   ·cases st with
    |some a=>
     refine iU p s f _ none _ (fun a h=>by cases h) fun x hx=>?_
     simp only[List.mem_append,List.mem_singleton] at hx
     rcases hx with hx|rfl
     ·exact h2 x hx
     ·exact⟨(h1 a rfl).1,Nat.le_of_lt aK⟩
    |none=>exact iU p s f _ none _ (fun a h=>by cases h) h2
   ·cases st with
    |some a=>
     refine iU p s f _ (some a) _ (fun b h=>?_) h2
     cases h
     have:=h1 a rfl
     exact⟨by omega,this.2⟩
    |none=>
     refine iU p s f _ (some pos) _ (fun b h=>?_) h2
     cases h
     exact⟨by omega,aK⟩
  ·exact⟨h2,fun a h=>(h1 a h).2⟩
theorem gP (p:Nat→Bool) (s:ByteArray):∀(f pos:Nat) (st:Option Nat) (acc:List (Nat×Nat)),(Lib.spansFromP p s f pos st acc).1.length≤acc.length+f
 |0,pos,st,acc=>Nat.le_refl _
 |f+1,pos,st,acc=>by
  unfold Lib.spansFromP
  split
  ·split
   ·cases st with
    |some a=>exact Nat.le_trans (gP p s f (pos+(Utf8.decode s pos).2) none (acc++[(a,pos)])) (by rw[List.length_append,List.length_singleton];omega)
    |none=>exact Nat.le_trans (gP p s f (pos+(Utf8.decode s pos).2) none acc) (by omega)
   ·cases st with
    |some a=>exact Nat.le_trans (gP p s f (pos+(Utf8.decode s pos).2) (some a) acc) (by omega)
    |none=>exact Nat.le_trans (gP p s f (pos+(Utf8.decode s pos).2) (some pos) acc) (by omega)
  ·exact Nat.le_add_right _ _
theorem qL (s:Txt):(bZ s).length≤s.length+1:=by
 unfold bZ Lib.goFieldsP
 rw[List.length_map,List.length_map]
 have h:=gP spP (bs s) (bs s).size 0 none []
 rw[bf] at h
 simp only[List.length_nil] at h
 unfold Lib.spansOfP Lib.closeSpans
 split
 ·rw[List.length_append]
  simp only[List.length_cons,List.length_nil]
  rw[bf]
  omega
 ·rw[bf]
  omega
theorem fp (s:Txt):∀x∈bZ s,x≠[]∧x.length≤s.length:=by
 intro x hx
 unfold bZ Lib.goFieldsP at hx
 simp only[List.mem_map] at hx
 obtain⟨y,⟨z,hz,rfl⟩,rfl⟩:=hx
 have h:=iU spP (bs s) (bs s).size 0 none [] (fun a h=>by cases h) (fun x hx=>by cases hx)
 have hz2:z.1<z.2∧z.2≤(bs s).size:=by
  unfold Lib.spansOfP Lib.closeSpans at hz
  split at hz
  ·rename_i a ha
   simp only[List.mem_append,List.mem_singleton] at hz
   rcases hz with hz|rfl
   ·exact h.1 z hz
   ·exact⟨h.2 a ha,Nat.le_refl _⟩
  ·exact h.1 z hz
 rw[bf] at hz2
 rw[oL]
 show((s.drop z.1).take (z.2-z.1))≠[]∧((s.drop z.1).take (z.2-z.1)).length≤s.length
 have hl:((s.drop z.1).take (z.2-z.1)).length=z.2-z.1:=by rw[List.length_take,List.length_drop];omega
 exact⟨fun e=>by rw[e] at hl;simp at hl;omega,by omega⟩
theorem qm (sub:Txt) (hs:sub≠[]):∀s:Txt,Lib.index s sub= -1∨∃i:Nat,Lib.index s sub=(i:Int)∧i+sub.length≤s.length
 |[]=>by
  unfold Lib.index
  rw[if_neg (by simpa using hs)]
  exact .inl rfl
 |b::l=>by
  unfold Lib.index
  split
  ·rename_i h
   exact .inr ⟨0,rfl,by have:=(List.isPrefixOf_iff_prefix.1 h).length_le;omega⟩
  ·rcases qm sub hs l with h|⟨i,h,hi⟩
   ·rw[h];exact .inl rfl
   ·refine .inr ⟨i+1,?_,by rw[List.length_cons];omega⟩
    rw[h,if_neg (by simp)]
    rfl
set_option maxHeartbeats 4000000 in
theorem yg (x:Txt) (w:World):
 Calls Tryz.prog 281 #[.string (bs x)] w fun e w'=>e=.returned (.tuple #[.int .i64 ((bR x).1:Int),.bool (bR x).2])∧w'=w:=by
 by_cases hnRead:x=iw
 ·subst hnRead
  skip
  have ht:bR iw=(2,true):=by decide
  rw[ht]
  unfold iw
  go_enter Tryz.func281,Tryz.ntmps281
  go_wp2
  go_ret2
  exact⟨rfl,rfl⟩
 have enRead:=beq_eq_false_iff_ne.2 hnRead
 by_cases hnTry:x=mT
 ·subst hnTry
  clear enRead
  have ht:bR mT=(2,true):=by decide
  rw[ht]
  unfold mT
  go_enter Tryz.func281,Tryz.ntmps281
  go_wp2
  go_ret2
  exact⟨rfl,rfl⟩
 have enTry:=beq_eq_false_iff_ne.2 hnTry
 by_cases hnWrite:x=fw
 ·subst hnWrite
  clear enRead enTry
  have ht:bR fw=(2,true):=by decide
  rw[ht]
  unfold fw
  go_enter Tryz.func281,Tryz.ntmps281
  go_wp2
  go_ret2
  exact⟨rfl,rfl⟩
 have enWrite:=beq_eq_false_iff_ne.2 hnWrite
 by_cases hnScan:x=iu
 ·subst hnScan
  clear enRead enTry enWrite
  have ht:bR iu=(3,true):=by decide
  rw[ht]
  unfold iu
  go_enter Tryz.func281,Tryz.ntmps281
  go_wp2
  go_ret2
  exact⟨rfl,rfl⟩
 have enScan:=beq_eq_false_iff_ne.2 hnScan
 by_cases hnEnv:x=jS
 ·subst hnEnv
  clear enRead enTry enWrite enScan
  have ht:bR jS=(2,false):=by decide
  rw[ht]
  unfold jS
  go_enter Tryz.func281,Tryz.ntmps281
  go_wp2
  go_ret2
  exact⟨rfl,rfl⟩
 have enEnv:=beq_eq_false_iff_ne.2 hnEnv
 by_cases hnKeep:x=dN
 ·subst hnKeep
  clear enRead enTry enWrite enScan enEnv
  have ht:bR dN=(2,false):=by decide
  rw[ht]
  unfold dN
  go_enter Tryz.func281,Tryz.ntmps281
  go_wp2
  go_ret2
  exact⟨rfl,rfl⟩
 have enKeep:=beq_eq_false_iff_ne.2 hnKeep
 by_cases hnNeed:x=fR
 ·subst hnNeed
  clear enRead enTry enWrite enScan enEnv enKeep
  have ht:bR fR=(2,false):=by decide
  rw[ht]
  unfold fR
  go_enter Tryz.func281,Tryz.ntmps281
  go_wp2
  go_ret2
  exact⟨rfl,rfl⟩
 have enNeed:=beq_eq_false_iff_ne.2 hnNeed
 by_cases hnSort:x=dO
 ·subst hnSort
  clear enRead enTry enWrite enScan enEnv enKeep enNeed
  have ht:bR dO=(1,false):=by decide
  rw[ht]
  unfold dO
  go_enter Tryz.func281,Tryz.ntmps281
  go_wp2
  go_ret2
  exact⟨rfl,rfl⟩
 have enSort:=beq_eq_false_iff_ne.2 hnSort
 by_cases hnUniq:x=dU
 ·subst hnUniq
  clear enRead enTry enWrite enScan enEnv enKeep enNeed enSort
  have ht:bR dU=(1,false):=by decide
  rw[ht]
  unfold dU
  go_enter Tryz.func281,Tryz.ntmps281
  go_wp2
  go_ret2
  exact⟨rfl,rfl⟩
 have enUniq:=beq_eq_false_iff_ne.2 hnUniq
 by_cases hnUpper:x=cK
 ·subst hnUpper
  clear enRead enTry enWrite enScan enEnv enKeep enNeed enSort enUniq
  have ht:bR cK=(1,false):=by decide
  rw[ht]
  unfold cK
  go_enter Tryz.func281,Tryz.ntmps281
  go_wp2
  go_ret2
  exact⟨rfl,rfl⟩
 have enUpper:=beq_eq_false_iff_ne.2 hnUpper
 by_cases hnCount:x=cJ
 ·subst hnCount
  clear enRead enTry enWrite enScan enEnv enKeep enNeed enSort enUniq enUpper
  have ht:bR cJ=(1,false):=by decide
  rw[ht]
  unfold cJ
  go_enter Tryz.func281,Tryz.ntmps281
  go_wp2
  go_ret2
  exact⟨rfl,rfl⟩
 have enCount:=beq_eq_false_iff_ne.2 hnCount
 by_cases hnFail:x=iz
 ·subst hnFail
  clear enRead enTry enWrite enScan enEnv enKeep enNeed enSort enUniq enUpper enCount
  have ht:bR iz=(1,false):=by decide
  rw[ht]
  unfold iz
  go_enter Tryz.func281,Tryz.ntmps281
  go_wp2
  go_ret2
  exact⟨rfl,rfl⟩
 have enFail:=beq_eq_false_iff_ne.2 hnFail
 have ht:bR x=(0,false):=by
  unfold bR
  rw[if_neg (by simp only[not_or];exact⟨hnRead,hnTry,hnWrite⟩),if_neg hnScan,if_neg (by simp only[not_or];exact⟨hnEnv,hnKeep,hnNeed⟩),if_neg (by simp only[not_or];exact⟨hnSort,hnUniq,hnUpper,hnCount,hnFail⟩)]
 rw[ht]
 clear ht hnRead hnTry hnWrite hnScan hnEnv hnKeep hnNeed hnSort hnUniq hnUpper hnCount hnFail
 unfold iw mT fw iu jS dN fR dO dU cK cJ iz at *
 go_enter Tryz.func281,Tryz.ntmps281
 go_wp2
 go_ret2
 exact⟨rfl,rfl⟩
noncomputable def nL (ty n:Nat):Bool:=match Tryz.prog.info? ty with|some i=>(match i.zero with|some (.agg z)=>z.size==n|_=>false)|none=>false
theorem jV {ty n:Nat} (h:nL ty n=true):∃zs:Array Value,zs.size=n∧∀w,(zeroValue ty).run Tryz.prog w=.ok (.agg zs) w:=by
 unfold nL at h
 split at h
 ·rename_i i hi
  split at h
  ·rename_i z hz
   exact⟨z,by simpa using h,fun w=>by simp[zeroValue,typeInfo,hi,hz]⟩
  ·cases h
 ·cases h
theorem ff {ty:TypeId} {zs:Array Value} (w:World) (hz:∀w,(zeroValue ty).run Tryz.prog w=.ok (.agg zs) w):
 (Instr.alloc ty true (.tuple #[])).run Tryz.prog w=.ok (.pointer (some ⟨w.heap.size,0,none⟩)) (w.alloc (.cells zs ty)):=by
 unfold Instr.alloc
 rw[Sem.run_bind,hz w]
 rfl
section
variable {ops:Array Oper} {rest:List Oper} {o o2:Oper} {a:Act} {w:World} {Q:Exit→Act→World→Prop}
theorem rm {w':World} (hr:(execOp a.eval o).run Tryz.prog w=.ok .skip w') (h:wpList Tryz.prog ops Q rest (a.put o.dst undef) w') (hw:Region.wanted o (yielded ops a.tmps)=true:=by rfl):wpList Tryz.prog ops Q (o::rest) a w:=by
 refine wpList_step fun K hK=>?_
 rw[if_pos hw]
 unfold Oper.wp
 rw[hr]
 exact hK _ _ h
theorem eS {ty n:Nat} {xs:Array Value} {x y:Operand} (rt:cZ ty n) (hs:xs.size=n) (h1:∀u∈xs.toList,u.oneCell'=true)
 (h:∀W1,Below w.heap.size w W1→W1.heap[w.heap.size]?=some (.cells xs ty (0,0))→W1.heap.size=w.heap.size+1→wpList Tryz.prog ops Q rest ((a.put o.dst (.pointer (some ⟨w.heap.size,0,none⟩))).put o2.dst undef) W1)
 (ho:o.op=.alloc ty:=by rfl) (ho2:o2.op=.store ty x y:=by rfl) (hx:(a.put o.dst (.pointer (some ⟨w.heap.size,0,none⟩))).eval x=.pointer (some ⟨w.heap.size,0,none⟩):=by rfl) (hy:(a.put o.dst (.pointer (some ⟨w.heap.size,0,none⟩))).eval y=.agg xs:=by rfl)
 (hw:Region.wanted o (yielded ops a.tmps)=true:=by rfl) (hw2:Region.wanted o2 (yielded ops (a.put o.dst (.pointer (some ⟨w.heap.size,0,none⟩))).tmps)=true:=by rfl) (hz:nL ty n=true:=by kernel_rfl):
 wpList Tryz.prog ops Q (o::o2::rest) a w:=by
 obtain⟨zs,hzs,hz⟩:=jV hz
 obtain⟨d,_,_,h3⟩:=rt.out
 refine gA (v:=.pointer (some ⟨w.heap.size,0,none⟩)) (w':=w.alloc (.cells zs ty)) ?_ ?_ hw
 ·unfold execOp
  simp only[ho,Sem.run_bind,ff w hz,Result.andThen_ok,Sem.run_pure]
 ·refine rm (w':=w.alloc (.cells xs ty)) ?_ (h _ (ab w _) (heap_alloc_new w _) (by rw[World.size_alloc])) hw2
  have hst:=run_storeAt_new (P:=Tryz.prog) w ty zs xs (by rw[h3,hs]) (by rw[hzs,hs]) (by rw[←Array.toArray_toList (xs:=xs)];exact all_oneCell_toArray h1)
  unfold execOp
  simp only[ho2,hx,hy,Sem.run_bind,hst,Result.andThen_ok,Sem.run_pure]
theorem df {ty n:Nat} {xs:Array Value} {x:Operand} (_:cZ ty n)
 (h:∀W1,Below w.heap.size w W1→W1.heap[w.heap.size]?=some (.cells xs ty (0,0))→W1.heap.size=w.heap.size+1→wpList Tryz.prog ops Q rest (a.put o.dst (.pointer (some ⟨w.heap.size,0,none⟩))) W1)
 (ho:o.op=.box ty x:=by rfl) (hx:a.eval x=.agg xs:=by rfl) (hw:Region.wanted o (yielded ops a.tmps)=true:=by rfl):
 wpList Tryz.prog ops Q (o::rest) a w:=by
 refine gA (v:=.pointer (some ⟨w.heap.size,0,none⟩)) (w':=w.alloc (.cells xs ty)) ?_ (h _ (ab w _) (heap_alloc_new w _) (by rw[World.size_alloc])) hw
 unfold execOp
 simp only[ho,hx]
 rfl
theorem zaA {ty:Nat} {zs:Array Value} (hz:(Tryz.prog.info? ty).map (·.zero)=some (some (.agg zs)))
 (h:∀W1,Below w.heap.size w W1→W1.heap[w.heap.size]?=some (.cells zs ty (0,0))→W1.heap.size=w.heap.size+1→wpList Tryz.prog ops Q rest (a.put o.dst (.pointer (some ⟨w.heap.size,0,none⟩))) W1)
 (ho:o.op=.alloc ty:=by rfl) (hw:Region.wanted o (yielded ops a.tmps)=true:=by rfl):
 wpList Tryz.prog ops Q (o::rest) a w:=by
 have hz':∀w,(zeroValue ty).run Tryz.prog w=.ok (.agg zs) w:=fun w=>by
  cases hi:Tryz.prog.info? ty with
  |none=>rw[hi] at hz;cases hz
  |some i=>rw[hi] at hz;simp only[Option.map_some,Option.some.injEq] at hz;simp[zeroValue,typeInfo,hi,hz]
 refine gA (v:=.pointer (some ⟨w.heap.size,0,none⟩)) (w':=w.alloc (.cells zs ty)) ?_ (h _ (ab w _) (heap_alloc_new w _) (by rw[World.size_alloc])) hw
 unfold execOp
 simp only[ho,Sem.run_bind,ff w hz',Result.andThen_ok,Sem.run_pure]
theorem fh {ty n:Nat} (_:cZ ty n)
 (h:∀(zs:Array Value) (W1:World),zs.size=n→Below w.heap.size w W1→W1.heap[w.heap.size]?=some (.cells zs ty (0,0))→W1.heap.size=w.heap.size+1→wpList Tryz.prog ops Q rest (a.put o.dst (.pointer (some ⟨w.heap.size,0,none⟩))) W1)
 (ho:o.op=.alloc ty:=by rfl) (hw:Region.wanted o (yielded ops a.tmps)=true:=by rfl) (hz:nL ty n=true:=by kernel_rfl):
 wpList Tryz.prog ops Q (o::rest) a w:=by
 obtain⟨zs,hzs,hz⟩:=jV hz
 refine gA (v:=.pointer (some ⟨w.heap.size,0,none⟩)) (w':=w.alloc (.cells zs ty)) ?_ (h zs _ hzs (ab w _) (heap_alloc_new w _) (by rw[World.size_alloc])) hw
 unfold execOp
 simp only[ho,Sem.run_bind,ff w hz,Result.andThen_ok,Sem.run_pure]
theorem dQ {ty n r:Nat} {xs old:Array Value} {x y:Operand} {t:TypeId} (rt:cZ ty n) (hr:w.heap[r]?=some (.cells old t (0,0))) (hold:old.size=n) (hs:xs.size=n) (h1:∀u∈xs.toList,u.oneCell'=true)
 (h:∀W1,aX r w W1→W1.heap[r]?=some (.cells xs t (0,0))→W1.heap.size=w.heap.size→wpList Tryz.prog ops Q rest (a.put o.dst undef) W1)
 (ho:o.op=.store ty x y:=by rfl) (hx:a.eval x=.pointer (some ⟨r,0,none⟩):=by rfl) (hy:a.eval y=.agg xs:=by rfl) (hw:Region.wanted o (yielded ops a.tmps)=true:=by rfl):
 wpList Tryz.prog ops Q (o::rest) a w:=by
 obtain⟨d,_,_,h3⟩:=rt.out
 have aK:r<w.heap.size:=(Array.getElem?_eq_some_iff.1 hr).1
 have hst:=run_storeVar_row (P:=Tryz.prog) w r t ty old xs hr (by rw[h3,hs]) (by rw[hold,hs]) (by rw[←Array.toArray_toList (xs:=xs)];exact all_oneCell_toArray h1)
 refine rm (w':=w.setRow r xs) ?_ (h _ ⟨aK,rfl,rfl,rfl,by simp,fun k _ hne=>setRow_other _ _ _ _ hne⟩ (setRow_heap _ _ _ _ _ _ hr) (by simp)) hw
 unfold execOp
 simp only[ho,hx,hy,Instr.storeAt,Instr.sureAddr,Sem.run_bind,Sem.run_pure,Result.andThen_ok,hst]
end
theorem RdL.parts {w:World} {b o:Nat} {r:RdL} (h:w.rangeAt b o r.cells):w.cell? ⟨b,o,none⟩=some (.string (bs r.path))∧w.cell? ⟨b,o+1,none⟩=some (.bool r.is)∧w.rangeAt b (o+2) (dgc r.sum):=by
 obtain⟨h1,h2⟩:=bF h
 obtain⟨h3,h4⟩:=bF h2
 exact⟨h1,h3,h4⟩
theorem MdL.parts {w:World} {b o:Nat} {r:MdL} (h:w.rangeAt b o r.cells):w.cell? ⟨b,o,none⟩=some (.string (bs r.path))∧w.rangeAt b (o+1) (dgc r.sum):=bF h
section
variable {P:Program} {md:Region.Mode} {ops:Array Oper} {Q:Exit→Act→World→Prop} {S:World→Prop} {k:Nat}
def fV (P:Program) (md:Region.Mode) (ops:Array Oper) (Q:Exit→Act→World→Prop) (S:World→Prop) (k:Nat):Nat→Array Bool→Act→World→Prop
 |0,listed,a,w=>Region.ready md ops listed=[]∧Q .normal a w
 |fuel+1,listed,a,w=>
  (Region.ready md ops listed=[]→Q .normal a w)∧
  ∀i∈Region.ready md ops listed,wpOp P ops Q i (fun a' w'=>((listed.setIfInBounds i true).getD k false=true∨S w')∧fV P md ops Q S k fuel (listed.setIfInBounds i true) a' w') a w
theorem gC:∀(fuel:Nat) (listed:Array Bool) (a:Act) (w:World),fV P md ops Q S k fuel listed a w→wpAny P md ops Q fuel listed a w
 |0,_,_,_,h=>h
 |fuel+1,_,_,_,h=>⟨h.1,fun i hi=>wpOp_mono (fun a' w' h'=>gC fuel _ a' w' h'.2) (h.2 i hi)⟩
theorem rU {i:Nat} {oi:Oper} {v:Value} (hi:ops[i]?=some oi) (hsel:∀(j:Nat) (o:Oper) cs b,ops[j]?=some o→o.op≠.select cs b)
 (hQ:∀c a w,Q (.panic c) (a.put oi.dst v) w→Q (.panic c) a w)
 (hk:∃ok,ops[k]?=some ok∧∃e∈ok.after,Region.binds md e=true∧e.on=i):
 ∀(fuel:Nat) (listed:Array Bool) (a:Act) (w:World),
  (∀j oj,ops[j]?=some oj→j≠i→listed.getD j true=false→(∀e∈oj.after,Region.binds md e=true→e.on≠i)→oi.apart ops oj=true)→
  i∈Region.ready md ops listed→YieldsIf P ops S oi v a→S w→listed.getD k false=false→k≠i→
  fV P md ops Q S k fuel (listed.setIfInBounds i true) (a.put oi.dst v) w→fV P md ops Q S k (fuel+1) listed a w:=by
 intro fuel
 induction fuel with
 |zero=>
  intro listed a w _ hr hy hS _ _ H
  refine⟨fun h=>(by rw[h] at hr;cases hr),fun j hj=>?_⟩
  by_cases hji:j=i
  ·subst hji;exact hy.wpOp hi hS ⟨.inr hS,H⟩
  ·have:=ready_mono hj hji
   rw[H.1] at this
   cases this
 |succ fuel ih=>
  intro listed a w hfree hr hy hS hkl hki H
  refine⟨fun h=>(by rw[h] at hr;cases hr),fun j hj=>?_⟩
  by_cases hji:j=i
  ·subst hji;exact hy.wpOp hi hS ⟨.inr hS,H⟩
  ·have h1:=H.2 j (ready_mono hj hji)
   obtain⟨hjun,oj,hoj,hall⟩:=mem_ready.1 hj
   have mR:∀e∈oj.after,Region.binds md e=true→e.on≠i:=fun e he hb heq=>by
    have h1:=hall e he hb
    have h0:=(mem_ready.1 hr).1
    rw[heq] at h1
    rcases Nat.lt_or_ge i listed.size with h'|h'
    ·simp[h'] at h0 h1;rw[h0] at h1;cases h1
    ·simp[Array.getElem?_eq_none h'] at h1
   have hjk:j≠k:=fun e=>by
    subst e
    obtain⟨ok,hok,e,he,hb,hon⟩:=hk
    obtain rfl:ok=oj:=Option.some.inj (hok.symm.trans hoj)
    exact mR e he hb hon
   have h2:=wpOp_putIf hoj (hfree j oj hoj hji hjun mR) (fun cs b=>hsel i oi cs b hi) (fun cs b=>hsel j oj cs b hoj) hQ hy h1
   have hfree':∀k ok,ops[k]?=some ok→k≠i→(listed.setIfInBounds j true).getD k true=false→
    (∀e∈ok.after,Region.binds md e=true→e.on≠i)→oi.apart ops ok=true:=fun k ok hk hki hun hno=>by
    refine hfree k ok hk hki ?_ hno
    by_cases hjk:j=k
    ·subst hjk;exact hjun
    ·rw[getD_set_ne true hjk] at hun;exact hun
   have hkj:(listed.setIfInBounds j true).getD k false=false:=by rw[getD_set_ne false hjk];exact hkl
   refine wpOp_mono (fun a' w' h3=>?_) h2
   obtain⟨h4,h5,h6⟩:=h3
   have hS':S w':=by
    rcases h5 with h5|h5
    ·rw[getD_set_ne false hjk,getD_set_ne false (Ne.symm hki),hkl] at h5
     cases h5
    ·exact h5
   refine⟨.inr hS',ih (listed.setIfInBounds j true) a' w' hfree' (ready_mono hr (Ne.symm hji)) h4 hS' hkj hki ?_⟩
   rw[Array.setIfInBounds_comm _ _ hji]
   exact h6
theorem mq {i:Nat} {oi:Oper} {v:Value} (hi:ops[i]?=some oi) (hsel:∀(j:Nat) (o:Oper) cs b,ops[j]?=some o→o.op≠.select cs b)
 (hQ:∀c a w,Q (.panic c) (a.put oi.dst v) w→Q (.panic c) a w):
 ∀(fuel:Nat) (listed:Array Bool) (a:Act) (w:World),
  (∀j oj,ops[j]?=some oj→j≠i→listed.getD j true=false→(∀e∈oj.after,Region.binds md e=true→e.on≠i)→oi.apart ops oj=true)→
  i∈Region.ready md ops listed→YieldsIf P ops (fun _=>True) oi v a→(listed.getD k false=true∨S w)→k≠i→
  fV P md ops Q S k fuel (listed.setIfInBounds i true) (a.put oi.dst v) w→fV P md ops Q S k (fuel+1) listed a w:=by
 intro fuel
 induction fuel with
 |zero=>
  intro listed a w _ hr hy hS hki H
  refine⟨fun h=>(by rw[h] at hr;cases hr),fun j hj=>?_⟩
  by_cases hji:j=i
  ·subst hji;exact hy.wpOp hi trivial ⟨by rw[getD_set_ne false (Ne.symm hki)];exact hS,H⟩
  ·have:=ready_mono hj hji
   rw[H.1] at this
   cases this
 |succ fuel ih=>
  intro listed a w hfree hr hy hS hki H
  refine⟨fun h=>(by rw[h] at hr;cases hr),fun j hj=>?_⟩
  by_cases hji:j=i
  ·subst hji;exact hy.wpOp hi trivial ⟨by rw[getD_set_ne false (Ne.symm hki)];exact hS,H⟩
  ·have h1:=H.2 j (ready_mono hj hji)
   obtain⟨hjun,oj,hoj,hall⟩:=mem_ready.1 hj
   have mR:∀e∈oj.after,Region.binds md e=true→e.on≠i:=fun e he hb heq=>by
    have h1:=hall e he hb
    have h0:=(mem_ready.1 hr).1
    rw[heq] at h1
    rcases Nat.lt_or_ge i listed.size with h'|h'
    ·simp[h'] at h0 h1;rw[h0] at h1;cases h1
    ·simp[Array.getElem?_eq_none h'] at h1
   have h2:=wpOp_putIf hoj (hfree j oj hoj hji hjun mR) (fun cs b=>hsel i oi cs b hi) (fun cs b=>hsel j oj cs b hoj) hQ hy h1
   have hfree':∀k ok,ops[k]?=some ok→k≠i→(listed.setIfInBounds j true).getD k true=false→
    (∀e∈ok.after,Region.binds md e=true→e.on≠i)→oi.apart ops ok=true:=fun k ok hk hki hun hno=>by
    refine hfree k ok hk hki ?_ hno
    by_cases hjk:j=k
    ·subst hjk;exact hjun
    ·rw[getD_set_ne true hjk] at hun;exact hun
   refine wpOp_mono (fun a' w' h3=>?_) h2
   obtain⟨h4,h5,h6⟩:=h3
   rw[Array.setIfInBounds_comm _ _ (Ne.symm hji),getD_set_ne false (Ne.symm hki)] at h5
   refine⟨h5,ih (listed.setIfInBounds j true) a' w' hfree' (ready_mono hr (Ne.symm hji)) h4 h5 hki ?_⟩
   rw[Array.setIfInBounds_comm _ _ hji]
   exact h6
structure WL (P:Program) (ops:Array Oper) (Q:Exit→Act→World→Prop) (S:World→Prop) (k fuel:Nat) (listed:Array Bool) (a:Act) (w:World):Prop where
 out:fV P .any ops Q S k fuel listed a w
variable {fuel:Nat} {listed:Array Bool} {a:Act} {w:World}
theorem aD {id:Nat} {l:List Oper} (S:World→Prop) (k:Nat) (hm:P.follows .mixedOrders=true) (h:∀W,Below w.heap.size w W→WL P l.toArray Q S k l.length (Array.replicate l.length false) a W):(Code.region id l.toArray true).wp P Q a w:=
 wp_region_any hm (gC _ _ _ _ (by simpa using(h w.drew (eP.below ⟨1,rfl⟩)).out))
def waits (ops:Array Oper) (k i:Nat):Bool:=match ops[k]? with|some o=>o.after.any fun e=>Region.binds .any e&&e.on==i|none=>false
theorem fH {i:Nat} (h:waits ops k i=true):∃ok,ops[k]?=some ok∧∃e∈ok.after,Region.binds .any e=true∧e.on=i:=by
 unfold waits at h
 split at h
 ·rename_i o ho
  obtain⟨e,he,h⟩:=Array.any_eq_true'.1 h
  simp only[Bool.and_eq_true,beq_iff_eq] at h
  exact⟨o,ho,e,he,h⟩
 ·cases h
theorem WL.take (i:Nat) (dst:Option Tmp) (v:Value) {oi:Oper} (hS:S w) (h:WL P ops Q S k fuel (listed.setIfInBounds i true) (a.put dst v) w) (hy:YieldsIf P ops S oi v a)
 (hi:ops[i]?=some oi:=by rfl) (hd:oi.dst=dst:=by rfl) (hs:Region.noSelect ops=true:=by kernel_rfl) (hf:Region.free .any ops listed i=true:=by kernel_rfl) (hr:(Region.ready .any ops listed).contains i=true:=by kernel_rfl)
 (hQ:∀c a w,Q (.panic c) (a.put oi.dst v) w→Q (.panic c) a w:=by exact fun _ _ _ h=>h) (hw:waits ops k i=true:=by kernel_rfl) (hkl:listed.getD k false=false:=by kernel_rfl) (hki:k≠i:=by decide):WL P ops Q S k (fuel+1) listed a w:=by
 subst hd
 exact⟨rU hi (Region.noSelect_spec hs) hQ (fH hw) fuel listed a w (Region.free_spec hi hf) (by simpa using hr) hy hS hkl hki h.out⟩
theorem WL.tk (i:Nat) (dst:Option Tmp) (v:Value) {oi:Oper} (hS:S w) (h:WL P ops Q S k fuel (listed.setIfInBounds i true) (a.put dst v) w)
 (hv:∀W,S W→(execOp a.eval oi).run P W=.ok (.value v) W:=by exact fun _ _=>rfl)
 (hi:ops[i]?=some oi:=by rfl) (hd:oi.dst=dst:=by rfl) (hs:Region.noSelect ops=true:=by kernel_rfl) (hf:Region.free .any ops listed i=true:=by kernel_rfl) (hr:(Region.ready .any ops listed).contains i=true:=by kernel_rfl)
 (hQ:∀c a w,Q (.panic c) (a.put oi.dst v) w→Q (.panic c) a w:=by exact fun _ _ _ h=>h) (hwt:Region.wanted oi (yielded ops a.tmps)=true:=by kernel_rfl) (hw:waits ops k i=true:=by kernel_rfl) (hkl:listed.getD k false=false:=by kernel_rfl) (hki:k≠i:=by decide):WL P ops Q S k (fuel+1) listed a w:=
 WL.take i dst v hS h (.inl ⟨hwt,hv⟩) hi hd hs hf hr hQ hw hkl hki
theorem ze0 (i:Nat) (dst:Option Tmp) {oi:Oper} (hS:S w) (h:∃v,(∀W,S W→(execOp a.eval oi).run P W=.ok (.value v) W)∧WL P ops Q S k fuel (listed.setIfInBounds i true) (a.put dst v) w)
 (hi:ops[i]?=some oi:=by rfl) (hd:oi.dst=dst:=by rfl) (hs:Region.noSelect ops=true:=by kernel_rfl) (hf:Region.free .any ops listed i=true:=by kernel_rfl) (hr:(Region.ready .any ops listed).contains i=true:=by kernel_rfl)
 (hQ:∀v c a w,Q (.panic c) (a.put oi.dst v) w→Q (.panic c) a w:=by exact fun _ _ _ _ h=>h) (hwt:Region.wanted oi (yielded ops a.tmps)=true:=by kernel_rfl) (hw:waits ops k i=true:=by kernel_rfl) (hkl:listed.getD k false=false:=by kernel_rfl) (hki:k≠i:=by decide):WL P ops Q S k (fuel+1) listed a w:=by
 obtain⟨v,hv,h⟩:=h
 exact WL.take i dst v hS h (.inl ⟨hwt,hv⟩) hi hd hs hf hr (hQ v) hw hkl hki
theorem zeZ (i:Nat) (dst:Option Tmp) {oi:Oper} (hS:listed.getD k false=true∨S w) (h:∃v,(∀W,(execOp a.eval oi).run P W=.ok (.value v) W)∧WL P ops Q S k fuel (listed.setIfInBounds i true) (a.put dst v) w)
 (hi:ops[i]?=some oi:=by rfl) (hd:oi.dst=dst:=by rfl) (hs:Region.noSelect ops=true:=by kernel_rfl) (hf:Region.free .any ops listed i=true:=by kernel_rfl) (hr:(Region.ready .any ops listed).contains i=true:=by kernel_rfl)
 (hQ:∀v c a w,Q (.panic c) (a.put oi.dst v) w→Q (.panic c) a w:=by exact fun _ _ _ _ h=>h) (hwt:Region.wanted oi (yielded ops a.tmps)=true:=by kernel_rfl) (hki:k≠i:=by decide):WL P ops Q S k (fuel+1) listed a w:=by
 subst hd
 obtain⟨v,hv,h⟩:=h
 exact⟨mq hi (Region.noSelect_spec hs) (hQ v) fuel listed a w (Region.free_spec hi hf) (by simpa using hr) (.inl ⟨hwt,fun W _=>hv W⟩) hS hki h.out⟩
theorem WL.o (i:Nat) {oi:Oper}
 (h:∀K':Act→World→Prop,Shut (∀a w,((listed.setIfInBounds i true).getD k false=true∨S w)→WL P ops Q S k fuel (listed.setIfInBounds i true) a w→K' a w)→Oper.wp P oi a w K' Q)
 (hi:ops[i]?=some oi:=by rfl) (hr:Region.ready .any ops listed=[i]:=by kernel_rfl) (hw:Region.wanted oi (yielded ops a.tmps)=true:=by kernel_rfl):WL P ops Q S k (fuel+1) listed a w:=
 ⟨⟨fun h0=>absurd (hr▸h0) (by simp),hr▸fun j hj=>by
   obtain rfl:j=i:=by simpa using hj
   exact wpOp_step hi (fun K' hK=>by rw[if_pos hw];exact h K' (fun a w hS hW=>hK a w ⟨hS,hW.out⟩))⟩⟩
theorem WL.d (h:Q .normal a w) (hr:Region.ready .any ops listed=[]:=by kernel_rfl):WL P ops Q S k fuel listed a w:=⟨by
 cases fuel with
 |zero=>exact⟨hr,h⟩
 |succ f=>exact⟨fun _=>h,by rw[hr];simp⟩⟩
end
noncomputable def iT (E sz by_:Nat):Bool:=match Tryz.prog.info? E with|some i=>(match i.zero with|some z=>z.cells.size==sz&&i.size==sz&&i.bytes==by_|_=>false)|none=>false
theorem dw {E sz by_:Nat} (h:iT E sz by_=true):∃i z,Tryz.prog.info? E=some i∧i.zero=some z∧i.size=sz∧i.bytes=by_∧z.cells.size=sz:=by
 unfold iT at h
 split at h
 ·rename_i i hi
  split at h
  ·rename_i z hz
   simp only[Bool.and_eq_true,beq_iff_eq] at h
   exact⟨i,z,hi,hz,h.1.2,h.2,h.1.1⟩
  ·cases h
 ·cases h
theorem zaz {α:Type} {f:α→List Value} {l:List α} (h:∀x∈l,∀u∈f x,u.oneCell'=true):∀u∈l.flatMap f,u.oneCell'=true:=by
 intro u hu
 obtain⟨x,hx,hu⟩:=List.mem_flatMap.1 hu
 exact h x hx u hu
theorem cG {α:Type} {w:World} {base e sz:Nat} {v:Value} {f:α→List Value} {l:List α} (h:w.ownsRow base e sz v l.length (l.flatMap f)) (hn:l.length≤maxLen):aJ w sz f v l:=am.of_owns h hn
set_option maxHeartbeats 1000000 in
theorem uy (v0:Value) (l:List RdL) (w:World) (h0:aJ w 34 RdL.cells v0 l) (h1:∀u∈l.flatMap RdL.cells,u.oneCell'=true) (bY:l.length≤1000000):
 Calls Tryz.prog 158 #[v0] w fun e w'=>∃v,e=.returned v∧w'.ownsRow w.heap.size 100 34 v l.length (l.flatMap RdL.cells)∧Below w.heap.size w w':=by
 obtain⟨i0,z,hi,hz,hs,hby,hzs⟩:=dw (E:=100) (sz:=34) (by_:=56) (by kernel_rfl)
 have h00:=h0
 obtain⟨a0,c0,rfl,hc0,hm0,hnone, -⟩:=h0.out RdL.len (by omega)
 have q22:∀(w:World) (a:Option Addr) (n c n' c':Nat),(binOp .eql 41 (.slice a n c) (.slice none n' c')).run Tryz.prog w=.ok (.bool a.isNone) w:=fun w a n c n' c'=>Lib.run_eql_slice_nil w _ _ a n c n' c' Tryz.underlying41
 cases a0 with
 |none=>
  have hc:=hnone rfl
  subst hc
  obtain rfl:l=[]:=List.eq_nil_of_length_eq_zero (by omega)
  go_enter Tryz.func158,Tryz.ntmps158
  go_wp2_with fail
  go_ret
  exact⟨_,rfl,⟨rfl,.inl ⟨rfl,rfl⟩⟩,Below.refl _ _⟩
 |some ad=>
  have Hs:=hid h00
  have H1:=hid h1
  clear hnone h00 h0 h1
  go_enter Tryz.func158,Tryz.ntmps158
  go_wp2_with (at_builtin;go_must (refine eH rfl _ _ 41 rfl w.heap.size 100 i0 z 34 56 Tryz.underlying41 hi hz hs hby hzs (by decide) _ 0 [] rfl ?c1 _ l.length (l.flatMap RdL.cells) rfl ?c2 ?c3 ?c4 ?c5 ?c6 ?_))
  case c1=>exact World.ownsRow_made w #[] 0 (Nat.le_refl _) (Nat.zero_le _) (by simp)
  case c2=>exact am.below Hs.out ((Below.refl _ w).alloc (Nat.le_refl _) _) (Nat.le_refl _)
  case c3=>exact H1.out
  case c4=>unfold maxLen;omega
  case c5=>omega
  case c6=>simp
  intro v' w1 hown hgrow
  go_wp2_with fail
  go_ret
  exact⟨v',rfl,by simpa using hown,((Below.refl _ w).alloc (Nat.le_refl _) _).grown hgrow (by simp) (by intro k hk;simp[Value.ownBlock] at hk;omega)⟩
theorem az {w:World} {base e sz n:Nat} {v:Value} {xs:List Value} (h:w.ownsRow base e sz v n xs):∃a c,v=.slice a n c:=by
 obtain⟨_,⟨rfl,rfl⟩|⟨g,cap,cur,rfl,_⟩⟩:=h
 ·exact⟨_,_,rfl⟩
 ·exact⟨_,_,rfl⟩
theorem aU {w w':World} {base e sz n:Nat} {v:Value} {xs:List Value} (h:w.ownsRow base e sz v n xs) (hk:∀k,v.ownBlock=some k→w'.heap[k]?=w.heap[k]?):w'.ownsRow base e sz v n xs:=by
 obtain⟨hl,⟨rfl,rfl⟩|⟨g,cap,cur,rfl,hb,hg,hr⟩⟩:=h
 ·exact⟨hl,.inl ⟨rfl,rfl⟩⟩
 ·exact⟨hl,.inr ⟨g,cap,cur,rfl,hb,(hk g rfl).trans hg,hr⟩⟩
theorem aR {w:World} {base base' e sz n:Nat} {v:Value} {xs:List Value} (h:w.ownsRow base e sz v n xs) (hb:base'≤base):w.ownsRow base' e sz v n xs:=by
 obtain⟨hl,⟨rfl,rfl⟩|⟨g,cap,cur,rfl,hb',hr⟩⟩:=h
 ·exact⟨hl,.inl ⟨rfl,rfl⟩⟩
 ·exact⟨hl,.inr ⟨g,cap,cur,rfl,by omega,hr⟩⟩
structure pB (w:World) (g cap:Nat) (l:List TcM):Prop where
 out:∃rest:List Value,w.heap[g]?=some (.cells (l.flatMap TcM.cells++rest).toArray 44 (0,0))∧l.length*34+rest.length=cap*34∧l.length≤cap∧cap≤maxLen
theorem nI (l:List TcM):(l.flatMap TcM.cells).length=l.length*34:=gE _ _ TcM.len l
theorem pB.lt {w:World} {g cap:Nat} {l:List TcM} (h:pB w g cap l):g<w.heap.size:=by
 obtain⟨r,h,_⟩:=h
 exact(Array.getElem?_eq_some_iff.1 h).1
theorem pB.owns {w:World} {g cap base:Nat} {l:List TcM} (h:pB w g cap l) (hb:base≤g):w.ownsRow base 44 34 (.slice (some ⟨g,0,none⟩) l.length cap) l.length (l.flatMap TcM.cells):=by
 obtain⟨r,h,hr,hc,hm⟩:=h
 refine⟨nI l,.inr ⟨g,cap,_,rfl,hb,h,hc,hm,by rw[List.size_toArray,List.length_append,nI,hr],?_⟩⟩
 rw[←nI l];simp
theorem pB.of_owns {w:World} {g off cap n base:Nat} {l:List TcM} (h:w.ownsRow base 44 34 (.slice (some ⟨g,off,none⟩) n cap) l.length (l.flatMap TcM.cells)):off=0∧n=l.length∧base≤g∧pB w g cap l:=by
 obtain⟨_,⟨h,_⟩|⟨g',cap',cur,h1,hb,hg,hc,hm,hs,ht⟩⟩:=h
 ·cases h
 ·simp only[Value.slice.injEq,Option.some.injEq,Addr.mk.injEq,and_true] at h1
  obtain⟨⟨rfl,rfl⟩,rfl,rfl⟩:=h1
  refine⟨rfl,rfl,hb,⟨cur.toList.drop (l.length*34),?_,?_,hc,hm⟩⟩
  ·rw[←ht,List.take_append_drop,Array.toArray_toList];exact hg
  ·have h2:cur.toList.length=cap*34:=(Array.length_toList).trans hs
   have:l.length*34≤cap*34:=Nat.mul_le_mul_right _ hc
   rw[List.length_drop,h2]
   omega
theorem pB.at {w:World} {g cap:Nat} {l:List TcM} (h:pB w g cap l) (k:Nat) (hk:k<l.length):w.rangeAt g (k*34) l[k].cells:=by
 obtain⟨r,h,_⟩:=h
 intro j v hv
 have hj:j<34:=by rw[←TcM.len l[k]];exact(List.getElem?_eq_some_iff.1 hv).1
 have hk2:(k+1)*34≤l.length*34:=Nat.mul_le_mul_right _ hk
 rw[cell_of_row _ _ _ _ _ _ h,List.getElem?_toArray,List.getElem?_append_left (by rw[nI];omega),nK _ _ TcM.len l k hk j hj]
 exact hv
theorem pB.keep {w w':World} {g cap:Nat} {l:List TcM} (h:pB w g cap l) (hk:w'.heap[g]?=w.heap[g]?):pB w' g cap l:=by
 obtain⟨r,h,hr⟩:=h
 exact⟨r,hk.trans h,hr⟩
section
variable {ops:Array Oper} {rest:List Oper} {o:Oper} {a:Act} {w:World} {Q:Exit→Act→World→Prop}
end
theorem sg {α:Type} {ys:List α} {i:Nat} (x:α) (h:i<ys.length):(ys.set i x).take (i+1)=ys.take i++[x]:=by
 rw[zbN _ i (by simpa using h),List.take_set,List.set_eq_of_length_le (by simp;omega)]
 simp
def mY (v' v:Value):Prop:=∃a n n' c,v'=.slice a n c∧v=.slice a n' c
theorem mY.own {v' v:Value} (h:mY v' v):v'.ownBlock=v.ownBlock:=by
 obtain⟨a,n,n',c,rfl,rfl⟩:=h
 cases a<;>rfl
theorem mY.cap {v' v:Value} (h:mY v' v) (hc:∀a n c,v=.slice (some a) n c→1≤c):∀a n c,v'=.slice (some a) n c→1≤c:=by
 obtain⟨a,n,n',c,rfl,rfl⟩:=h
 intro a' m c' e
 simp only[Value.slice.injEq] at e
 obtain⟨rfl, -,rfl⟩:=e
 exact hc _ _ _ rfl
abbrev tcs (l:List TcM):List Value:=l.flatMap TcM.cells
abbrev kz:=List UInt8×List UInt8
def ed (fs:List kz):List Value:=fs.flatMap fun f=>[.string (bs f.1),.string (bs f.2)]
theorem jK (fs:List kz):(ed fs).length=fs.length*2:=by
 induction fs with
 |nil=>rfl
 |cons f fs ih=>simp[ed] at ih ⊢;omega
theorem pF (fs:List kz):∀k (h:k<fs.length),(ed fs)[k*2]?=some (.string (bs fs[k].1))∧(ed fs)[k*2+1]?=some (.string (bs fs[k].2)):=by
 induction fs with
 |nil=>intro k h;simp at h
 |cons f fs ih=>
  intro k h
  have e:ed (f::fs)=.string (bs f.1)::.string (bs f.2)::ed fs:=rfl
  cases k with
  |zero=>rw[e];exact⟨rfl,rfl⟩
  |succ k=>
   have:=ih k (by simpa using h)
   rw[e,show(k+1)*2=k*2+1+1 by omega]
   simpa using this
theorem am.files {w:World} {v:Value} {n:Nat} {fs:List kz} (h:am w 2 v n (ed fs)):n=fs.length∧∃a c,v=.slice a fs.length c∧fs.length≤c∧c≤maxLen∧
 (∀k,k<fs.length→∃b off,a=some ⟨b,off,none⟩∧b<w.heap.size∧∀j (hj:j<fs.length),w.cell? ⟨b,off+j*2,none⟩=some (.string (bs fs[j].1))∧w.cell? ⟨b,off+j*2+1,none⟩=some (.string (bs fs[j].2))):=by
 obtain⟨hl,a,c,rfl,hc,hm, -,hx⟩:=h
 have hn:n=fs.length:=by rw[jK] at hl;omega
 subst hn
 refine⟨rfl,a,c,rfl,hc,hm,fun k hk=>?_⟩
 obtain⟨b,off,rfl,aK,hcell⟩:=hx (by intro e;have:=jK fs;rw[e] at this;simp at this;omega)
 refine⟨b,off,rfl,aK,fun j hj=>?_⟩
 have hg:=pF fs j hj
 exact⟨hcell _ _ hg.1,by rw[Nat.add_assoc];exact hcell _ _ hg.2⟩
def zam:List UInt8:=[111,117,116]
def fZ (s dir:List UInt8):Bool:=dS s&&(dir.isEmpty||(dS dir&&Lib.hasPrefix s (dir++[47])))
def ng (p:List UInt8):Bool:=!dS p||p==zam||fZ p zam
def fM (f:kz) (ahead:List UInt8) (first:Bool):Nat:=
 if ng f.1=true then 7
 else if first=false∧(f.1==ahead)=true then 8
 else if first=false∧Op.bytesLess f.1 ahead=true then 2
 else if 65536<f.2.length then 6 else 0
def eh (ahead:List UInt8) (first:Bool):List kz→Nat
 |[]=>0
 |f::fs=>if fM f ahead first=0 then eh f.1 false fs else fM f ahead first
def fL (fs:List kz):Nat:=if 1024<fs.length then 6 else eh [] true fs
end Go.Proofs.YtlbipokkdiiaiaaGreatDoor
