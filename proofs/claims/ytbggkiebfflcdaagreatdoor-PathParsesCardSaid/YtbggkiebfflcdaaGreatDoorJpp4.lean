/-
  Joined by join.py: LayP Fc
-/
import Derived.Shelf.Strings.SlTrimAscii
import Derived.Shelf.Strings.Builder1
import Derived.Shelf.Strings.Builder2
import Derived.Shelf.Strings.OnBuilder
import Derived.Shelf.Strings.Trim
import Derived.Shelf.Small.Utf8
import Derived.Shelf.Small.Strs
import Derived.Shelf.Small.Wraps
import Derived.Shelf.Strings.BuilderF
import Derived.Shelf.Strings.BuilderK
import Derived.Shelf.Strconv.Atoi
import Derived.Shelf.Strconv.Itoa0
import Derived.Shelf.Strconv.Itoa1
import Derived.Shelf.LaysM
import Derived.Shelf.Strconv.Itoa2
import Derived.Shelf.Strconv.Itoa3
import Derived.Shelf.Strconv.AtoiErrFast
import Derived.Shelf.Strconv.ParseIntEmpty
import Derived.Shelf.Strconv.AtoiFail
import Derived.Shelf.Strconv.Clone
import Derived.Shelf.Strconv.SyntaxError
import Derived.Shelf.LaysC
import Derived.Shelf.Strconv.ToError
import Derived.Shelf.Strconv.Lower
import Derived.Shelf.Strconv.ParseUint10
import Derived.Shelf.Strconv.ParseUint10Empty
import Derived.Shelf.Strconv.ParseUint10Any
import Derived.Shelf.Strconv.ParseInt10
import Derived.Shelf.Strconv.AtoiLong
import Derived.Shelf.Strconv.AtoiInnerAll
import Derived.Shelf.Strconv.RangeError
import Derived.Shelf.Strconv.ToErrorRange
import Derived.Shelf.Strconv.AtoiAll
import Derived.Shelf.Strconv.ErrVarAll
import Derived.Shelf.Strings.Search1
import Derived.Shelf.Strings.Search2
import Derived.Shelf.Strings.Search3
import Derived.Shelf.Strings.Shaped
import Derived.Shelf.Strings.Prefix
import Derived.Shelf.Strings.Runes
import Derived.Shelf.Strings.AsciiSet
import Derived.Shelf.Bits.Mul64
import Derived.Shelf.Strings.Repeat
import Derived.Shelf.Unicode.DecodeSlow
import Derived.Shelf.Unicode.DecodeAny
import Derived.Shelf.Unicode.DecodeLast
import Derived.Shelf.Slices.Turned
import Derived.Test.YtbggkiebfflcdaaGreatDoorProg
import Derived.Test.YtbggkiebfflcdaaGreatDoorJpp3
set_option maxRecDepth 100000
set_option maxHeartbeats 32000000
namespace Go.Proofs.YtbggkiebfflcdaaGreatDoor
end Go.Proofs.YtbggkiebfflcdaaGreatDoor
section
namespace Go.Proofs
open Go.Shelf
def Tryz.lays169_ren:Go.Shelf.Ren:=⟨fun | 169=>91 | n=>n,fun | 70=>148 | 9=>9 | 0=>0 | 72=>151 | 37=>149 | 127=>188 | 3=>3 | 5=>5 | n=>n,fun | n=>n⟩
theorem Tryz.lays169:Go.Proofs.Lays.n169 Tryz.prog Tryz.lays169_ren:={
 mixed:=by kernel_rfl
 f169:=Tryz.func91.trans (congrArg some (by kernel_rfl))
 t0:=Tryz.underlying0
 a0:=Tryz.isAgg0
 z0:=Tryz.sizeOf0
 v0:=Tryz.zeroValue0
 t3:=Tryz.underlying3
 a3:=Tryz.isAgg3
 z3:=Tryz.sizeOf3
 v3:=Tryz.zeroValue3
 t9:=Tryz.underlying9
 a9:=Tryz.isAgg9
 z9:=Tryz.sizeOf9
 v9:=Tryz.zeroValue9
 t37:=Tryz.underlying149
 a37:=Tryz.isAgg149
 z37:=Tryz.sizeOf149
 v37:=Tryz.zeroValue149
 t70:=Tryz.underlying148
 a70:=Tryz.isAgg148
 z70:=Tryz.sizeOf148
 v70:=Tryz.zeroValue148
 t72:=Tryz.underlying151
 a72:=Tryz.isAgg151
 z72:=Tryz.sizeOf151
 v72:=Tryz.zeroValue151
 t127:=Tryz.underlying188
 a127:=Tryz.isAgg188
 z127:=Tryz.sizeOf188
 v127:=Tryz.zeroValue188 }
theorem Tryz.Builder_Extra_169:Builder.Extra Tryz.prog Tryz.lays169_ren:={
 sizeBuilder:=by kernel_rfl
 liesBuilder:=by kernel_rfl
 t5:=Tryz.underlying5
 a5:=Tryz.isAgg5
 z5:=Tryz.sizeOf5
 v5:=Tryz.zeroValue5
 infoByte:=by kernel_rfl
 cellsByte:=by kernel_rfl
 sizeByte:=by kernel_rfl
 neB5:=by decide }
def Tryz.lays156_ren:Go.Shelf.Ren:=⟨fun | 156=>58 | 165=>89 | 166=>90 | 169=>91 | 240=>138 | 241=>139 | 276=>177 | 277=>178 | n=>n,fun | 31=>43 | 9=>9 | 3=>3 | 4=>4 | 0=>0 | 20=>20 | 72=>151 | 76=>155 | 70=>148 | 37=>149 | 75=>154 | 127=>188 | 164=>212 | 5=>5 | 80=>87 | n=>n,fun | n=>n⟩
theorem Tryz.lays156:Go.Proofs.Lays.n156 Tryz.prog Tryz.lays156_ren:={
 mixed:=by kernel_rfl
 f156:=Tryz.func58.trans (congrArg some (by kernel_rfl))
 f165:=Tryz.func89.trans (congrArg some (by kernel_rfl))
 f166:=Tryz.func90.trans (congrArg some (by kernel_rfl))
 f169:=Tryz.func91.trans (congrArg some (by kernel_rfl))
 f240:=Tryz.func138.trans (congrArg some (by kernel_rfl))
 f241:=Tryz.func139.trans (congrArg some (by kernel_rfl))
 f276:=Tryz.func177.trans (congrArg some (by kernel_rfl))
 f277:=Tryz.func178.trans (congrArg some (by kernel_rfl))
 t0:=Tryz.underlying0
 a0:=Tryz.isAgg0
 z0:=Tryz.sizeOf0
 v0:=Tryz.zeroValue0
 t3:=Tryz.underlying3
 a3:=Tryz.isAgg3
 z3:=Tryz.sizeOf3
 v3:=Tryz.zeroValue3
 t4:=Tryz.underlying4
 a4:=Tryz.isAgg4
 z4:=Tryz.sizeOf4
 v4:=Tryz.zeroValue4
 t9:=Tryz.underlying9
 a9:=Tryz.isAgg9
 z9:=Tryz.sizeOf9
 v9:=Tryz.zeroValue9
 t20:=Tryz.underlying20
 a20:=Tryz.isAgg20
 z20:=Tryz.sizeOf20
 v20:=Tryz.zeroValue20
 t31:=Tryz.underlying43
 a31:=Tryz.isAgg43
 z31:=Tryz.sizeOf43
 v31:=Tryz.zeroValue43
 t37:=Tryz.underlying149
 a37:=Tryz.isAgg149
 z37:=Tryz.sizeOf149
 v37:=Tryz.zeroValue149
 t70:=Tryz.underlying148
 a70:=Tryz.isAgg148
 z70:=Tryz.sizeOf148
 v70:=Tryz.zeroValue148
 t72:=Tryz.underlying151
 a72:=Tryz.isAgg151
 z72:=Tryz.sizeOf151
 v72:=Tryz.zeroValue151
 t75:=Tryz.underlying154
 a75:=Tryz.isAgg154
 z75:=Tryz.sizeOf154
 v75:=Tryz.zeroValue154
 t76:=Tryz.underlying155
 a76:=Tryz.isAgg155
 z76:=Tryz.sizeOf155
 v76:=Tryz.zeroValue155
 t127:=Tryz.underlying188
 a127:=Tryz.isAgg188
 z127:=Tryz.sizeOf188
 v127:=Tryz.zeroValue188
 t164:=Tryz.underlying212
 a164:=Tryz.isAgg212
 z164:=Tryz.sizeOf212
 v164:=Tryz.zeroValue212 }
theorem Tryz.Builder_Extra_156:Builder.Extra Tryz.prog Tryz.lays156_ren:={
 sizeBuilder:=by kernel_rfl
 liesBuilder:=by kernel_rfl
 t5:=Tryz.underlying5
 a5:=Tryz.isAgg5
 z5:=Tryz.sizeOf5
 v5:=Tryz.zeroValue5
 infoByte:=by kernel_rfl
 cellsByte:=by kernel_rfl
 sizeByte:=by kernel_rfl
 neB5:=by decide }
open Go.RowKit in
theorem Tryz.strings_Join_none (a:Option Addr) (c:Nat) (sep:ByteArray) (w:World):
  Calls Tryz.prog 58 #[.slice a 0 c,.string sep] w fun e w'=>e=.returned (.string ⟨#[]⟩)/\w'=w:=Any.strings_Join_none Tryz.lays156 Tryz.Builder_Extra_156 a c sep w
open Go.RowKit in
theorem Tryz.strings_Join (bk o c:Nat) (xs:List ByteArray) (sep:ByteArray) (w:World) (hcells:∀ (j:Nat) x,xs[j]? = some x -> w.cell? ⟨bk,o+j,none⟩=some (.string x)) (hbk:bk < w.heap.size) (hN:xs.length<=140737488355328) (hcap:xs.length<=c) (hlen:(Lib.join (xs.map (·.data.toList)) sep.data.toList).length<=140737488355328):
  Calls Tryz.prog 58 #[.slice (some ⟨bk,o,none⟩) xs.length c,.string sep] w fun e w'=>e=.returned (.string ⟨(Lib.join (xs.map (·.data.toList)) sep.data.toList).toArray⟩)/\Below w.heap.size w w':=Any.strings_Join Tryz.lays156 Tryz.Builder_Extra_156 bk o c xs sep w hcells hbk hN hcap hlen
def Tryz.lays161_ren:Go.Shelf.Ren:=⟨fun | 161=>66 | 231=>100 | 227=>101 | 233=>102 | 235=>103 | 228=>151 | 197=>152 | 151=>153 | 260=>188 | 152=>189 | 137=>154 | 119=>211 | 224=>212 | 225=>213 | 217=>190 | 266=>214 | n=>n,fun | 9=>9 | 4=>4 | 3=>3 | 5=>5 | 117=>165 | 116=>164 | 0=>0 | 124=>168 | 105=>178 | 21=>21 | 119=>233 | 46=>51 | 139=>236 | 138=>235 | n=>n,fun | 3=>1 | 4=>2 | n=>n⟩
theorem Tryz.lays161:Go.Proofs.Lays.n161 Tryz.prog Tryz.lays161_ren:={
 mixed:=by kernel_rfl
 f119:=Tryz.func211.trans (congrArg some (by kernel_rfl))
 f137:=Tryz.func154.trans (congrArg some (by kernel_rfl))
 f151:=Tryz.func153.trans (congrArg some (by kernel_rfl))
 f152:=Tryz.func189.trans (congrArg some (by kernel_rfl))
 f161:=Tryz.func66.trans (congrArg some (by kernel_rfl))
 f197:=Tryz.func152.trans (congrArg some (by kernel_rfl))
 f217:=Tryz.func190.trans (congrArg some (by kernel_rfl))
 f224:=Tryz.func212.trans (congrArg some (by kernel_rfl))
 f225:=Tryz.func213.trans (congrArg some (by kernel_rfl))
 f227:=Tryz.func101.trans (congrArg some (by kernel_rfl))
 f228:=Tryz.func151.trans (congrArg some (by kernel_rfl))
 f231:=Tryz.func100.trans (congrArg some (by kernel_rfl))
 f233:=Tryz.func102.trans (congrArg some (by kernel_rfl))
 f235:=Tryz.func103.trans (congrArg some (by kernel_rfl))
 f260:=Tryz.func188.trans (congrArg some (by kernel_rfl))
 f266:=Tryz.func214.trans (congrArg some (by kernel_rfl))
 t0:=Tryz.underlying0
 a0:=Tryz.isAgg0
 z0:=Tryz.sizeOf0
 v0:=Tryz.zeroValue0
 t3:=Tryz.underlying3
 a3:=Tryz.isAgg3
 z3:=Tryz.sizeOf3
 v3:=Tryz.zeroValue3
 t4:=Tryz.underlying4
 a4:=Tryz.isAgg4
 z4:=Tryz.sizeOf4
 v4:=Tryz.zeroValue4
 t5:=Tryz.underlying5
 a5:=Tryz.isAgg5
 z5:=Tryz.sizeOf5
 v5:=Tryz.zeroValue5
 t9:=Tryz.underlying9
 a9:=Tryz.isAgg9
 z9:=Tryz.sizeOf9
 v9:=Tryz.zeroValue9
 t21:=Tryz.underlying21
 a21:=Tryz.isAgg21
 z21:=Tryz.sizeOf21
 v21:=Tryz.zeroValue21
 t46:=Tryz.underlying51
 a46:=Tryz.isAgg51
 z46:=Tryz.sizeOf51
 v46:=Tryz.zeroValue51
 t105:=Tryz.underlying178
 a105:=Tryz.isAgg178
 z105:=Tryz.sizeOf178
 v105:=Tryz.zeroValue178
 t116:=Tryz.underlying164
 a116:=Tryz.isAgg164
 z116:=Tryz.sizeOf164
 t117:=Tryz.underlying165
 a117:=Tryz.isAgg165
 z117:=Tryz.sizeOf165
 v117:=Tryz.zeroValue165
 t119:=Tryz.underlying233
 a119:=Tryz.isAgg233
 z119:=Tryz.sizeOf233
 t124:=Tryz.underlying168
 a124:=Tryz.isAgg168
 z124:=Tryz.sizeOf168
 v124:=Tryz.zeroValue168
 t138:=Tryz.underlying235
 a138:=Tryz.isAgg235
 z138:=Tryz.sizeOf235
 v138:=Tryz.zeroValue235
 t139:=Tryz.underlying236
 a139:=Tryz.isAgg236
 z139:=Tryz.sizeOf236
 v139:=Tryz.zeroValue236
 g3:=by kernel_rfl
 g4:=by kernel_rfl }
def Tryz.lays162_ren:Go.Shelf.Ren:=⟨fun | 162=>193 | 232=>215 | 227=>101 | 234=>216 | 236=>217 | 228=>151 | 271=>232 | 151=>153 | 120=>245 | 197=>152 | 152=>189 | 260=>188 | 137=>154 | 119=>211 | 224=>212 | 225=>213 | 217=>190 | 266=>214 | n=>n,fun | 9=>9 | 4=>4 | 3=>3 | 5=>5 | 117=>165 | 116=>164 | 0=>0 | 124=>168 | 21=>21 | 105=>178 | 46=>51 | 119=>233 | 139=>236 | 138=>235 | n=>n,fun | 3=>1 | 4=>2 | n=>n⟩
theorem Tryz.lays162:Go.Proofs.Lays.n162 Tryz.prog Tryz.lays162_ren:={
 mixed:=by kernel_rfl
 f119:=Tryz.func211.trans (congrArg some (by kernel_rfl))
 f120:=Tryz.func245.trans (congrArg some (by kernel_rfl))
 f137:=Tryz.func154.trans (congrArg some (by kernel_rfl))
 f151:=Tryz.func153.trans (congrArg some (by kernel_rfl))
 f152:=Tryz.func189.trans (congrArg some (by kernel_rfl))
 f162:=Tryz.func193.trans (congrArg some (by kernel_rfl))
 f197:=Tryz.func152.trans (congrArg some (by kernel_rfl))
 f217:=Tryz.func190.trans (congrArg some (by kernel_rfl))
 f224:=Tryz.func212.trans (congrArg some (by kernel_rfl))
 f225:=Tryz.func213.trans (congrArg some (by kernel_rfl))
 f227:=Tryz.func101.trans (congrArg some (by kernel_rfl))
 f228:=Tryz.func151.trans (congrArg some (by kernel_rfl))
 f232:=Tryz.func215.trans (congrArg some (by kernel_rfl))
 f234:=Tryz.func216.trans (congrArg some (by kernel_rfl))
 f236:=Tryz.func217.trans (congrArg some (by kernel_rfl))
 f260:=Tryz.func188.trans (congrArg some (by kernel_rfl))
 f266:=Tryz.func214.trans (congrArg some (by kernel_rfl))
 f271:=Tryz.func232.trans (congrArg some (by kernel_rfl))
 t0:=Tryz.underlying0
 a0:=Tryz.isAgg0
 z0:=Tryz.sizeOf0
 v0:=Tryz.zeroValue0
 t3:=Tryz.underlying3
 a3:=Tryz.isAgg3
 z3:=Tryz.sizeOf3
 v3:=Tryz.zeroValue3
 t4:=Tryz.underlying4
 a4:=Tryz.isAgg4
 z4:=Tryz.sizeOf4
 v4:=Tryz.zeroValue4
 t5:=Tryz.underlying5
 a5:=Tryz.isAgg5
 z5:=Tryz.sizeOf5
 v5:=Tryz.zeroValue5
 t9:=Tryz.underlying9
 a9:=Tryz.isAgg9
 z9:=Tryz.sizeOf9
 v9:=Tryz.zeroValue9
 t21:=Tryz.underlying21
 a21:=Tryz.isAgg21
 z21:=Tryz.sizeOf21
 v21:=Tryz.zeroValue21
 t46:=Tryz.underlying51
 a46:=Tryz.isAgg51
 z46:=Tryz.sizeOf51
 v46:=Tryz.zeroValue51
 t105:=Tryz.underlying178
 a105:=Tryz.isAgg178
 z105:=Tryz.sizeOf178
 v105:=Tryz.zeroValue178
 t116:=Tryz.underlying164
 a116:=Tryz.isAgg164
 z116:=Tryz.sizeOf164
 t117:=Tryz.underlying165
 a117:=Tryz.isAgg165
 z117:=Tryz.sizeOf165
 v117:=Tryz.zeroValue165
 t119:=Tryz.underlying233
 a119:=Tryz.isAgg233
 z119:=Tryz.sizeOf233
 t124:=Tryz.underlying168
 a124:=Tryz.isAgg168
 z124:=Tryz.sizeOf168
 v124:=Tryz.zeroValue168
 t138:=Tryz.underlying235
 a138:=Tryz.isAgg235
 z138:=Tryz.sizeOf235
 v138:=Tryz.zeroValue235
 t139:=Tryz.underlying236
 a139:=Tryz.isAgg236
 z139:=Tryz.sizeOf236
 v139:=Tryz.zeroValue236
 g3:=by kernel_rfl
 g4:=by kernel_rfl }
def Tryz.lays160_ren:Go.Shelf.Ren:=⟨fun | 160=>218 | 232=>215 | 231=>100 | 227=>101 | 234=>216 | 233=>102 | 236=>217 | 235=>103 | 228=>151 | 271=>232 | 151=>153 | 197=>152 | 120=>245 | 152=>189 | 260=>188 | 137=>154 | 119=>211 | 224=>212 | 225=>213 | 217=>190 | 266=>214 | n=>n,fun | 9=>9 | 4=>4 | 3=>3 | 5=>5 | 117=>165 | 116=>164 | 0=>0 | 124=>168 | 21=>21 | 105=>178 | 46=>51 | 119=>233 | 139=>236 | 138=>235 | n=>n,fun | 3=>1 | 4=>2 | n=>n⟩
theorem Tryz.lays160:Go.Proofs.Lays.n160 Tryz.prog Tryz.lays160_ren:={
 mixed:=by kernel_rfl
 f119:=Tryz.func211.trans (congrArg some (by kernel_rfl))
 f120:=Tryz.func245.trans (congrArg some (by kernel_rfl))
 f137:=Tryz.func154.trans (congrArg some (by kernel_rfl))
 f151:=Tryz.func153.trans (congrArg some (by kernel_rfl))
 f152:=Tryz.func189.trans (congrArg some (by kernel_rfl))
 f160:=Tryz.func218.trans (congrArg some (by kernel_rfl))
 f197:=Tryz.func152.trans (congrArg some (by kernel_rfl))
 f217:=Tryz.func190.trans (congrArg some (by kernel_rfl))
 f224:=Tryz.func212.trans (congrArg some (by kernel_rfl))
 f225:=Tryz.func213.trans (congrArg some (by kernel_rfl))
 f227:=Tryz.func101.trans (congrArg some (by kernel_rfl))
 f228:=Tryz.func151.trans (congrArg some (by kernel_rfl))
 f231:=Tryz.func100.trans (congrArg some (by kernel_rfl))
 f232:=Tryz.func215.trans (congrArg some (by kernel_rfl))
 f233:=Tryz.func102.trans (congrArg some (by kernel_rfl))
 f234:=Tryz.func216.trans (congrArg some (by kernel_rfl))
 f235:=Tryz.func103.trans (congrArg some (by kernel_rfl))
 f236:=Tryz.func217.trans (congrArg some (by kernel_rfl))
 f260:=Tryz.func188.trans (congrArg some (by kernel_rfl))
 f266:=Tryz.func214.trans (congrArg some (by kernel_rfl))
 f271:=Tryz.func232.trans (congrArg some (by kernel_rfl))
 t0:=Tryz.underlying0
 a0:=Tryz.isAgg0
 z0:=Tryz.sizeOf0
 v0:=Tryz.zeroValue0
 t3:=Tryz.underlying3
 a3:=Tryz.isAgg3
 z3:=Tryz.sizeOf3
 v3:=Tryz.zeroValue3
 t4:=Tryz.underlying4
 a4:=Tryz.isAgg4
 z4:=Tryz.sizeOf4
 v4:=Tryz.zeroValue4
 t5:=Tryz.underlying5
 a5:=Tryz.isAgg5
 z5:=Tryz.sizeOf5
 v5:=Tryz.zeroValue5
 t9:=Tryz.underlying9
 a9:=Tryz.isAgg9
 z9:=Tryz.sizeOf9
 v9:=Tryz.zeroValue9
 t21:=Tryz.underlying21
 a21:=Tryz.isAgg21
 z21:=Tryz.sizeOf21
 v21:=Tryz.zeroValue21
 t46:=Tryz.underlying51
 a46:=Tryz.isAgg51
 z46:=Tryz.sizeOf51
 v46:=Tryz.zeroValue51
 t105:=Tryz.underlying178
 a105:=Tryz.isAgg178
 z105:=Tryz.sizeOf178
 v105:=Tryz.zeroValue178
 t116:=Tryz.underlying164
 a116:=Tryz.isAgg164
 z116:=Tryz.sizeOf164
 t117:=Tryz.underlying165
 a117:=Tryz.isAgg165
 z117:=Tryz.sizeOf165
 v117:=Tryz.zeroValue165
 t119:=Tryz.underlying233
 a119:=Tryz.isAgg233
 z119:=Tryz.sizeOf233
 t124:=Tryz.underlying168
 a124:=Tryz.isAgg168
 z124:=Tryz.sizeOf168
 v124:=Tryz.zeroValue168
 t138:=Tryz.underlying235
 a138:=Tryz.isAgg235
 z138:=Tryz.sizeOf235
 v138:=Tryz.zeroValue235
 t139:=Tryz.underlying236
 a139:=Tryz.isAgg236
 z139:=Tryz.sizeOf236
 v139:=Tryz.zeroValue236
 g3:=by kernel_rfl
 g4:=by kernel_rfl }
def Tryz.lays137_ren:Go.Shelf.Ren:=⟨fun | 137=>154 | 217=>190 | 266=>214 | n=>n,fun | 9=>9 | 5=>5 | 3=>3 | n=>n,fun | n=>n⟩
theorem Tryz.lays137:Go.Proofs.Lays.n137 Tryz.prog Tryz.lays137_ren:={
 mixed:=by kernel_rfl
 f137:=Tryz.func154.trans (congrArg some (by kernel_rfl))
 f217:=Tryz.func190.trans (congrArg some (by kernel_rfl))
 f266:=Tryz.func214.trans (congrArg some (by kernel_rfl))
 t3:=Tryz.underlying3
 a3:=Tryz.isAgg3
 z3:=Tryz.sizeOf3
 v3:=Tryz.zeroValue3
 t5:=Tryz.underlying5
 a5:=Tryz.isAgg5
 z5:=Tryz.sizeOf5
 v5:=Tryz.zeroValue5
 t9:=Tryz.underlying9
 a9:=Tryz.isAgg9
 z9:=Tryz.sizeOf9
 v9:=Tryz.zeroValue9 }
open Go.RowKit in
theorem Tryz.strings_IndexByte (s:ByteArray) (c:Int) (w:World):
  Calls Tryz.prog 154 #[.string s,.int .u8 c] w fun e w'=>e=.returned (.int .i64 (Lib.indexByte s.data.toList c.toNat.toUInt8))/\w'=w:=Any.strings_IndexByte Tryz.lays137 s c w
def Tryz.lays103_ren:Go.Shelf.Ren:=⟨fun | 103=>156 | 210=>192 | 206=>191 | n=>n,fun | 9=>9 | 4=>4 | 24=>196 | 3=>3 | n=>n,fun | n=>n⟩
theorem Tryz.lays103:Go.Proofs.Lays.n103 Tryz.prog Tryz.lays103_ren:={
 mixed:=by kernel_rfl
 f103:=Tryz.func156.trans (congrArg some (by kernel_rfl))
 f206:=Tryz.func191.trans (congrArg some (by kernel_rfl))
 f210:=Tryz.func192.trans (congrArg some (by kernel_rfl))
 t3:=Tryz.underlying3
 a3:=Tryz.isAgg3
 z3:=Tryz.sizeOf3
 v3:=Tryz.zeroValue3
 t4:=Tryz.underlying4
 a4:=Tryz.isAgg4
 z4:=Tryz.sizeOf4
 v4:=Tryz.zeroValue4
 t9:=Tryz.underlying9
 a9:=Tryz.isAgg9
 z9:=Tryz.sizeOf9
 v9:=Tryz.zeroValue9
 t24:=Tryz.underlying196
 a24:=Tryz.isAgg196
 z24:=Tryz.sizeOf196
 v24:=Tryz.zeroValue196 }
open Go.RowKit in
theorem Tryz.strings_CutPrefix (s p:ByteArray) (w:World):
  Calls Tryz.prog 156 #[.string s,.string p] w fun e w'=>e=.returned (.tuple #[.string ⟨(Lib.trimPrefix s.data.toList p.data.toList).toArray⟩,.bool (Lib.hasPrefix s.data.toList p.data.toList)])/\w'=w:=Any.strings_CutPrefix Tryz.lays103 s p w
open Go.RowKit in
theorem Tryz.Builder_String_any_k (B b:Nat) (l:List UInt8) (w:World) (h:Lib.IsBuilderF 151 5 B b (Lib.byteCells l) w) (hBw:B<=w.heap.size):
  Calls Tryz.prog 91 #[.pointer (some ⟨b,0,none⟩)] w fun e w'=>e=.returned (.string ⟨l.toArray⟩)/\(Lib.IsBuilderF 151 5 B b (Lib.byteCells l) w'/\Below B w w'/\Lib.OthersKept 5 (some b) w w'):=Any.Builder_String_any_k Tryz.lays169 Tryz.Builder_Extra_169 B b l w h hBw
def Tryz.laysM171_ren:Go.Shelf.Ren:=⟨fun | 171=>93 | 243=>142 | 246=>179 | 283=>204 | 284=>205 | 285=>206 | 286=>207 | 129=>227 | 317=>226 | 318=>228 | 319=>229 | 320=>230 | 337=>241 | 338=>242 | n=>n,fun | 3=>3 | 9=>9 | 2=>2 | 4=>4 | 171=>226 | 0=>0 | 53=>227 | 37=>149 | 5=>5 | 173=>230 | 212=>246 | 51=>247 | 20=>20 | 213=>248 | 46=>51 | 232=>266 | 233=>267 | n=>n,fun | 17=>3 | 18=>6 | 19=>7 | n=>n⟩
theorem Tryz.laysM171:Go.Proofs.LaysM.n171 Tryz.prog Tryz.laysM171_ren:={
 mixed:=by kernel_rfl
 f129:=Tryz.func227.trans (congrArg some (by kernel_rfl))
 f171:=Tryz.func93.trans (congrArg some (by kernel_rfl))
 f243:=Tryz.func142.trans (congrArg some (by kernel_rfl))
 f246:=Tryz.func179.trans (congrArg some (by kernel_rfl))
 f283:=Tryz.func204.trans (congrArg some (by kernel_rfl))
 f284:=Tryz.func205.trans (congrArg some (by kernel_rfl))
 f285:=Tryz.func206.trans (congrArg some (by kernel_rfl))
 f286:=Tryz.func207.trans (congrArg some (by kernel_rfl))
 f317:=Tryz.func226.trans (congrArg some (by kernel_rfl))
 f318:=Tryz.func228.trans (congrArg some (by kernel_rfl))
 f319:=Tryz.func229.trans (congrArg some (by kernel_rfl))
 f320:=Tryz.func230.trans (congrArg some (by kernel_rfl))
 f337:=Tryz.func241.trans (congrArg some (by kernel_rfl))
 f338:=Tryz.func242.trans (congrArg some (by kernel_rfl))
 t0:=Tryz.underlying0
 a0:=Tryz.isAgg0
 z0:=Tryz.sizeOf0
 v0:=Tryz.zeroValue0
 t2:=Tryz.underlying2
 a2:=Tryz.isAgg2
 z2:=Tryz.sizeOf2
 v2:=Tryz.zeroValue2
 t3:=Tryz.underlying3
 a3:=Tryz.isAgg3
 z3:=Tryz.sizeOf3
 v3:=Tryz.zeroValue3
 t4:=Tryz.underlying4
 a4:=Tryz.isAgg4
 z4:=Tryz.sizeOf4
 v4:=Tryz.zeroValue4
 t5:=Tryz.underlying5
 a5:=Tryz.isAgg5
 z5:=Tryz.sizeOf5
 v5:=Tryz.zeroValue5
 t9:=Tryz.underlying9
 a9:=Tryz.isAgg9
 z9:=Tryz.sizeOf9
 v9:=Tryz.zeroValue9
 t20:=Tryz.underlying20
 a20:=Tryz.isAgg20
 z20:=Tryz.sizeOf20
 v20:=Tryz.zeroValue20
 t37:=Tryz.underlying149
 a37:=Tryz.isAgg149
 z37:=Tryz.sizeOf149
 v37:=Tryz.zeroValue149
 t46:=Tryz.underlying51
 a46:=Tryz.isAgg51
 z46:=Tryz.sizeOf51
 v46:=Tryz.zeroValue51
 t51:=Tryz.underlying247
 a51:=Tryz.isAgg247
 z51:=Tryz.sizeOf247
 v51:=Tryz.zeroValue247
 t53:=Tryz.underlying227
 a53:=Tryz.isAgg227
 z53:=Tryz.sizeOf227
 v53:=Tryz.zeroValue227
 t171:=Tryz.underlying226
 a171:=Tryz.isAgg226
 z171:=Tryz.sizeOf226
 v171:=Tryz.zeroValue226
 t173:=Tryz.underlying230
 a173:=Tryz.isAgg230
 z173:=Tryz.sizeOf230
 v173:=Tryz.zeroValue230
 t212:=Tryz.underlying246
 a212:=Tryz.isAgg246
 z212:=Tryz.sizeOf246
 v212:=Tryz.zeroValue246
 t213:=Tryz.underlying248
 a213:=Tryz.isAgg248
 z213:=Tryz.sizeOf248
 t232:=Tryz.underlying266
 a232:=Tryz.isAgg266
 z232:=Tryz.sizeOf266
 v232:=Tryz.zeroValue266
 t233:=Tryz.underlying267
 a233:=Tryz.isAgg267
 z233:=Tryz.sizeOf267
 v233:=Tryz.zeroValue267
 g17:=by kernel_rfl
 g18:=by kernel_rfl
 g19:=by kernel_rfl
 i0:=by kernel_rfl
 i2:=by kernel_rfl
 i3:=by kernel_rfl
 i4:=by kernel_rfl
 i5:=by kernel_rfl
 i9:=by kernel_rfl
 i20:=by kernel_rfl
 i37:=by kernel_rfl
 i46:=by kernel_rfl
 i51:=by kernel_rfl
 i53:=by kernel_rfl
 i171:=by kernel_rfl
 i173:=by kernel_rfl
 i212:=by kernel_rfl
 i232:=by kernel_rfl
 i233:=by kernel_rfl
 m17:=by kernel_rfl
 m18:=by kernel_rfl
 m19:=by kernel_rfl }
open Go.RowKit Go.Sort Go.Lib in
theorem Tryz.strconv_Itoa (n:Int) (h0:-9223372036854775808<=n) (h1:n<=9223372036854775807) (w:World) (htab:Lib.TabIs Tryz.prog w "internal/strconv.uint64pow10" .u64 Lib.pow10Tab):
  Calls Tryz.prog 93 #[.int .i64 n] w fun e w'=>e=.returned (.string ⟨(Lib.itoa n).toArray⟩)/\∃ k os,w'=grow (w.drewN k) os:=Any.strconv_Itoa Tryz.laysM171 n h0 h1 w htab
def Tryz.laysC172_ren:Go.Shelf.Ren:=⟨fun | 172=>200 | 244=>223 | 245=>224 | 247=>236 | 279=>237 | 280=>238 | 281=>239 | 282=>240 | 287=>249 | 316=>250 | 171=>93 | 205=>251 | 321=>256 | 322=>257 | 243=>142 | 246=>179 | 283=>204 | 284=>205 | 285=>206 | 286=>207 | 129=>227 | 317=>226 | 318=>228 | 319=>229 | 320=>230 | 337=>241 | 338=>242 | n=>n,fun | 9=>9 | 3=>3 | 75=>154 | 76=>155 | 4=>4 | 5=>5 | 167=>251 | 37=>149 | 0=>0 | 85=>252 | 2=>2 | 168=>254 | 53=>227 | 175=>261 | 46=>51 | 210=>264 | 127=>188 | 145=>275 | 143=>273 | 21=>21 | 171=>226 | 173=>230 | 212=>246 | 51=>247 | 20=>20 | 213=>248 | 232=>266 | 233=>267 | 80=>87 | n=>n,fun | 15=>4 | 16=>5 | 17=>3 | 18=>6 | 19=>7 | n=>n⟩
theorem Tryz.laysC172:Go.Proofs.LaysC.n172 Tryz.prog Tryz.laysC172_ren:={
 mixed:=by kernel_rfl
 f129:=Tryz.func227.trans (congrArg some (by kernel_rfl))
 f171:=Tryz.func93.trans (congrArg some (by kernel_rfl))
 f172:=Tryz.func200.trans (congrArg some (by kernel_rfl))
 f205:=Tryz.func251.trans (congrArg some (by kernel_rfl))
 f243:=Tryz.func142.trans (congrArg some (by kernel_rfl))
 f244:=Tryz.func223.trans (congrArg some (by kernel_rfl))
 f245:=Tryz.func224.trans (congrArg some (by kernel_rfl))
 f246:=Tryz.func179.trans (congrArg some (by kernel_rfl))
 f247:=Tryz.func236.trans (congrArg some (by kernel_rfl))
 f279:=Tryz.func237.trans (congrArg some (by kernel_rfl))
 f280:=Tryz.func238.trans (congrArg some (by kernel_rfl))
 f281:=Tryz.func239.trans (congrArg some (by kernel_rfl))
 f282:=Tryz.func240.trans (congrArg some (by kernel_rfl))
 f283:=Tryz.func204.trans (congrArg some (by kernel_rfl))
 f284:=Tryz.func205.trans (congrArg some (by kernel_rfl))
 f285:=Tryz.func206.trans (congrArg some (by kernel_rfl))
 f286:=Tryz.func207.trans (congrArg some (by kernel_rfl))
 f287:=Tryz.func249.trans (congrArg some (by kernel_rfl))
 f316:=Tryz.func250.trans (congrArg some (by kernel_rfl))
 f317:=Tryz.func226.trans (congrArg some (by kernel_rfl))
 f318:=Tryz.func228.trans (congrArg some (by kernel_rfl))
 f319:=Tryz.func229.trans (congrArg some (by kernel_rfl))
 f320:=Tryz.func230.trans (congrArg some (by kernel_rfl))
 f321:=Tryz.func256.trans (congrArg some (by kernel_rfl))
 f322:=Tryz.func257.trans (congrArg some (by kernel_rfl))
 f337:=Tryz.func241.trans (congrArg some (by kernel_rfl))
 f338:=Tryz.func242.trans (congrArg some (by kernel_rfl))
 t0:=Tryz.underlying0
 a0:=Tryz.isAgg0
 z0:=Tryz.sizeOf0
 v0:=Tryz.zeroValue0
 t2:=Tryz.underlying2
 a2:=Tryz.isAgg2
 z2:=Tryz.sizeOf2
 v2:=Tryz.zeroValue2
 t3:=Tryz.underlying3
 a3:=Tryz.isAgg3
 z3:=Tryz.sizeOf3
 v3:=Tryz.zeroValue3
 t4:=Tryz.underlying4
 a4:=Tryz.isAgg4
 z4:=Tryz.sizeOf4
 v4:=Tryz.zeroValue4
 t5:=Tryz.underlying5
 a5:=Tryz.isAgg5
 z5:=Tryz.sizeOf5
 v5:=Tryz.zeroValue5
 t9:=Tryz.underlying9
 a9:=Tryz.isAgg9
 z9:=Tryz.sizeOf9
 v9:=Tryz.zeroValue9
 t20:=Tryz.underlying20
 a20:=Tryz.isAgg20
 z20:=Tryz.sizeOf20
 v20:=Tryz.zeroValue20
 t21:=Tryz.underlying21
 a21:=Tryz.isAgg21
 z21:=Tryz.sizeOf21
 v21:=Tryz.zeroValue21
 t37:=Tryz.underlying149
 a37:=Tryz.isAgg149
 z37:=Tryz.sizeOf149
 v37:=Tryz.zeroValue149
 t46:=Tryz.underlying51
 a46:=Tryz.isAgg51
 z46:=Tryz.sizeOf51
 v46:=Tryz.zeroValue51
 t51:=Tryz.underlying247
 a51:=Tryz.isAgg247
 z51:=Tryz.sizeOf247
 v51:=Tryz.zeroValue247
 t53:=Tryz.underlying227
 a53:=Tryz.isAgg227
 z53:=Tryz.sizeOf227
 v53:=Tryz.zeroValue227
 t75:=Tryz.underlying154
 a75:=Tryz.isAgg154
 z75:=Tryz.sizeOf154
 v75:=Tryz.zeroValue154
 t76:=Tryz.underlying155
 a76:=Tryz.isAgg155
 z76:=Tryz.sizeOf155
 v76:=Tryz.zeroValue155
 t85:=Tryz.underlying252
 a85:=Tryz.isAgg252
 z85:=Tryz.sizeOf252
 v85:=Tryz.zeroValue252
 t127:=Tryz.underlying188
 a127:=Tryz.isAgg188
 z127:=Tryz.sizeOf188
 v127:=Tryz.zeroValue188
 t143:=Tryz.underlying273
 a143:=Tryz.isAgg273
 z143:=Tryz.sizeOf273
 v143:=Tryz.zeroValue273
 t145:=Tryz.underlying275
 a145:=Tryz.isAgg275
 z145:=Tryz.sizeOf275
 v145:=Tryz.zeroValue275
 t167:=Tryz.underlying251
 a167:=Tryz.isAgg251
 z167:=Tryz.sizeOf251
 v167:=Tryz.zeroValue251
 t168:=Tryz.underlying254
 a168:=Tryz.isAgg254
 z168:=Tryz.sizeOf254
 v168:=Tryz.zeroValue254
 t171:=Tryz.underlying226
 a171:=Tryz.isAgg226
 z171:=Tryz.sizeOf226
 v171:=Tryz.zeroValue226
 t173:=Tryz.underlying230
 a173:=Tryz.isAgg230
 z173:=Tryz.sizeOf230
 v173:=Tryz.zeroValue230
 t175:=Tryz.underlying261
 a175:=Tryz.isAgg261
 z175:=Tryz.sizeOf261
 v175:=Tryz.zeroValue261
 t210:=Tryz.underlying264
 a210:=Tryz.isAgg264
 z210:=Tryz.sizeOf264
 v210:=Tryz.zeroValue264
 t212:=Tryz.underlying246
 a212:=Tryz.isAgg246
 z212:=Tryz.sizeOf246
 v212:=Tryz.zeroValue246
 t213:=Tryz.underlying248
 a213:=Tryz.isAgg248
 z213:=Tryz.sizeOf248
 t232:=Tryz.underlying266
 a232:=Tryz.isAgg266
 z232:=Tryz.sizeOf266
 v232:=Tryz.zeroValue266
 t233:=Tryz.underlying267
 a233:=Tryz.isAgg267
 z233:=Tryz.sizeOf267
 v233:=Tryz.zeroValue267
 g15:=by kernel_rfl
 g16:=by kernel_rfl
 g17:=by kernel_rfl
 g18:=by kernel_rfl
 g19:=by kernel_rfl
 t80:=Tryz.underlying87
 a80:=Tryz.isAgg87
 z80:=Tryz.sizeOf87
 v80:=Tryz.zeroValue87
 i0:=by kernel_rfl
 i2:=by kernel_rfl
 i3:=by kernel_rfl
 i4:=by kernel_rfl
 i5:=by kernel_rfl
 i9:=by kernel_rfl
 i20:=by kernel_rfl
 i21:=by kernel_rfl
 i37:=by kernel_rfl
 i46:=by kernel_rfl
 i51:=by kernel_rfl
 i53:=by kernel_rfl
 i75:=by kernel_rfl
 i76:=by kernel_rfl
 i80:=by kernel_rfl
 i85:=by kernel_rfl
 i127:=by kernel_rfl
 i143:=by kernel_rfl
 i145:=by kernel_rfl
 i167:=by kernel_rfl
 i168:=by kernel_rfl
 i171:=by kernel_rfl
 i173:=by kernel_rfl
 i175:=by kernel_rfl
 i210:=by kernel_rfl
 i212:=by kernel_rfl
 i232:=by kernel_rfl
 i233:=by kernel_rfl
 m15:=by kernel_rfl
 m16:=by kernel_rfl
 m17:=by kernel_rfl
 m18:=by kernel_rfl
 m19:=by kernel_rfl
 c0:=by kernel_rfl
 c2:=by kernel_rfl
 c3:=by kernel_rfl
 c4:=by kernel_rfl
 c5:=by kernel_rfl
 c9:=by kernel_rfl
 c20:=by kernel_rfl
 c21:=by kernel_rfl
 c37:=by kernel_rfl
 c46:=by kernel_rfl
 c51:=by kernel_rfl
 c53:=by kernel_rfl
 c75:=by kernel_rfl
 c76:=by kernel_rfl
 c80:=by kernel_rfl
 c85:=by kernel_rfl
 c127:=by kernel_rfl
 c143:=by kernel_rfl
 c145:=by kernel_rfl
 c167:=by kernel_rfl
 c168:=by kernel_rfl
 c171:=by kernel_rfl
 c173:=by kernel_rfl
 c175:=by kernel_rfl
 c210:=by kernel_rfl
 c212:=by kernel_rfl
 c213:=by kernel_rfl
 c232:=by kernel_rfl
 c233:=by kernel_rfl }
open Go.RowKit in
theorem Tryz.strconv_Atoi_ok (s:ByteArray) (hmax:s.size<=9223372036854775806) (v:Int) (h:Lib.atoiAll s.data.toList=.ok v) (w:World):
  Calls Tryz.prog 200 #[.string s] w fun e w'=>e=.returned (.tuple #[.int .i64 v,.nilIface])/\(w'=w ∨ ∃ t,w'=Lib.bytesWorld w 5 t):=Any.strconv_Atoi_ok Tryz.laysC172 s hmax v h w
open Go.RowKit in
theorem Tryz.strconv_Atoi_syntax (s:ByteArray) (hlim:s.size<=281474976710656) (h:Lib.atoiAll s.data.toList=Lib.NumEnd.syntax) (ev:Value) (w:World) (hv:w.cell? ⟨4,0,none⟩=some ev) (hev:ev=.nilIface ∨ ∃ te pe,ev=.iface te pe):
  Calls Tryz.prog 200 #[.string s] w fun e w'=>∃ N,e=.returned (.tuple #[.int .i64 (0),.iface 254 (.pointer (some ⟨N,0,none⟩))])/\w.heap.size<=N/\w'.heap[N]? = some (.cells #[.string ⟨#[65,116,111,105]⟩,.string s,ev] 264 (0,0))/\Below w.heap.size w w':=Any.strconv_Atoi_syntax Tryz.laysC172 s hlim h ev w hv hev
open Go.RowKit in
theorem Tryz.strconv_Atoi_range (s:ByteArray) (hlim:s.size<=281474976710656) (h:Lib.atoiAll s.data.toList=.range) (ev:Value) (w:World) (hv:w.cell? ⟨5,0,none⟩=some ev) (hev:ev=.nilIface ∨ ∃ te pe,ev=.iface te pe):
  Calls Tryz.prog 200 #[.string s] w fun e w'=>∃ N,e=.returned (.tuple #[.int .i64 (Lib.atoiSat s.data.toList),.iface 254 (.pointer (some ⟨N,0,none⟩))])/\w.heap.size<=N/\w'.heap[N]? = some (.cells #[.string ⟨#[65,116,111,105]⟩,.string s,ev] 264 (0,0))/\Below w.heap.size w w':=Any.strconv_Atoi_range Tryz.laysC172 s hlim h ev w hv hev
def Tryz.lays144_ren:Go.Shelf.Ren:=⟨fun | 144=>248 | 143=>255 | 219=>258 | 217=>190 | 225=>213 | 224=>212 | 267=>259 | 266=>214 | 314=>260 | n=>n,fun | 9=>9 | 4=>4 | 3=>3 | 5=>5 | 46=>51 | 146=>268 | 51=>247 | n=>n,fun | 1=>0 | n=>n⟩
theorem Tryz.lays144:Go.Proofs.Lays.n144 Tryz.prog Tryz.lays144_ren:={
 mixed:=by kernel_rfl
 f143:=Tryz.func255.trans (congrArg some (by kernel_rfl))
 f144:=Tryz.func248.trans (congrArg some (by kernel_rfl))
 f217:=Tryz.func190.trans (congrArg some (by kernel_rfl))
 f219:=Tryz.func258.trans (congrArg some (by kernel_rfl))
 f224:=Tryz.func212.trans (congrArg some (by kernel_rfl))
 f225:=Tryz.func213.trans (congrArg some (by kernel_rfl))
 f266:=Tryz.func214.trans (congrArg some (by kernel_rfl))
 f267:=Tryz.func259.trans (congrArg some (by kernel_rfl))
 f314:=Tryz.func260.trans (congrArg some (by kernel_rfl))
 t3:=Tryz.underlying3
 a3:=Tryz.isAgg3
 z3:=Tryz.sizeOf3
 v3:=Tryz.zeroValue3
 t4:=Tryz.underlying4
 a4:=Tryz.isAgg4
 z4:=Tryz.sizeOf4
 v4:=Tryz.zeroValue4
 t5:=Tryz.underlying5
 a5:=Tryz.isAgg5
 z5:=Tryz.sizeOf5
 v5:=Tryz.zeroValue5
 t9:=Tryz.underlying9
 a9:=Tryz.isAgg9
 z9:=Tryz.sizeOf9
 v9:=Tryz.zeroValue9
 t46:=Tryz.underlying51
 a46:=Tryz.isAgg51
 z46:=Tryz.sizeOf51
 v46:=Tryz.zeroValue51
 t51:=Tryz.underlying247
 a51:=Tryz.isAgg247
 z51:=Tryz.sizeOf247
 v51:=Tryz.zeroValue247
 t146:=Tryz.underlying268
 a146:=Tryz.isAgg268
 z146:=Tryz.sizeOf268
 v146:=Tryz.zeroValue268
 g1:=by kernel_rfl }
open Go.RowKit Go.Lib in
open Go.RowKit Go.Lib in
theorem Tryz.strings_Contains (s sub:ByteArray) (m:Int) (w:World) (hs:s.size < 4294967281) (hm:w.cell? ⟨0,0,none⟩=some (.int .i64 m)):
  Calls Tryz.prog 248 #[.string s,.string sub] w fun e w'=>e=.returned (.bool (Lib.contains s.data.toList sub.data.toList))/\w'=w:=Any.strings_Contains Tryz.lays144 s sub m w hs hm
def Tryz.lays99_ren:Go.Shelf.Ren:=⟨fun | 99=>155 | 206=>191 | n=>n,fun | 9=>9 | 4=>4 | 3=>3 | n=>n,fun | n=>n⟩
theorem Tryz.lays99:Go.Proofs.Lays.n99 Tryz.prog Tryz.lays99_ren:={
 mixed:=by kernel_rfl
 f99:=Tryz.func155.trans (congrArg some (by kernel_rfl))
 f206:=Tryz.func191.trans (congrArg some (by kernel_rfl))
 t3:=Tryz.underlying3
 a3:=Tryz.isAgg3
 z3:=Tryz.sizeOf3
 v3:=Tryz.zeroValue3
 t4:=Tryz.underlying4
 a4:=Tryz.isAgg4
 z4:=Tryz.sizeOf4
 v4:=Tryz.zeroValue4
 t9:=Tryz.underlying9
 a9:=Tryz.isAgg9
 z9:=Tryz.sizeOf9
 v9:=Tryz.zeroValue9 }
open Go.RowKit Go.Lib in
theorem Tryz.strings_HasPrefix (s p:ByteArray) (w:World):
  Calls Tryz.prog 155 #[.string s,.string p] w fun e w'=>e=.returned (.bool (Lib.hasPrefix s.data.toList p.data.toList))/\w'=w:=Any.strings_HasPrefix Tryz.lays99 s p w
open Go.RowKit Go.Lib in
def Tryz.lays110_ren:Go.Shelf.Ren:=⟨fun | 110=>185 | 109=>210 | n=>n,fun | 31=>43 | 9=>9 | 4=>4 | 3=>3 | 0=>0 | n=>n,fun | n=>n⟩
theorem Tryz.lays110:Go.Proofs.Lays.n110 Tryz.prog Tryz.lays110_ren:={
 mixed:=by kernel_rfl
 f109:=Tryz.func210.trans (congrArg some (by kernel_rfl))
 f110:=Tryz.func185.trans (congrArg some (by kernel_rfl))
 t0:=Tryz.underlying0
 a0:=Tryz.isAgg0
 z0:=Tryz.sizeOf0
 v0:=Tryz.zeroValue0
 t3:=Tryz.underlying3
 a3:=Tryz.isAgg3
 z3:=Tryz.sizeOf3
 v3:=Tryz.zeroValue3
 t4:=Tryz.underlying4
 a4:=Tryz.isAgg4
 z4:=Tryz.sizeOf4
 v4:=Tryz.zeroValue4
 t9:=Tryz.underlying9
 a9:=Tryz.isAgg9
 z9:=Tryz.sizeOf9
 v9:=Tryz.zeroValue9
 t31:=Tryz.underlying43
 a31:=Tryz.isAgg43
 z31:=Tryz.sizeOf43
 v31:=Tryz.zeroValue43 }
open Go.Lib in
theorem Tryz.slices_Contains_string (b off n c:Nat) (zs:List ByteArray) (x:ByteArray) (w:World) (hz:n<=zs.length) (hbig:n<=9223372036854775807) (hc:∀ j,j < zs.length -> w.cell? ⟨b,off+j,none⟩=some (.string (zs.getD j ByteArray.empty))):
  Calls Tryz.prog 185 #[.slice (some ⟨b,off,none⟩) n c,.string x] w fun e w'=>e=.returned (.bool (Lib.containsS (zs.take n) x))/\w'=w:=Any.slices_Contains_string Tryz.lays110 b off n c zs x w hz hbig hc
end Go.Proofs
end
namespace Go.Proofs.YtbggkiebfflcdaaGreatDoor
section
open Go.RowKit
def aDl:List UInt8:=[48,49,50,51,52,53,54,55,56,57,97,98,99,100,101,102]
def qJ (o:Option Nat):Int:=match o with | none=>-1 | some d=>(d:Int)
theorem aCa (u:UInt8):((u.toNat:Int)).toNat.toUInt8=u:=by simp
theorem jH (s:ByteArray) (u:UInt8) (w:World):Calls Tryz.prog 154 #[.string s,.int .u8 (u.toNat:Int)] w fun e w'=>e=.returned (.int .i64 (Lib.indexByte s.data.toList u))/\w=w':=by
 refine(Tryz.strings_IndexByte s (u.toNat:Int) w).mono ?_;rintro e w' ⟨rfl,rfl⟩;rw[aCa];exact⟨rfl,rfl⟩
theorem aFe (u:UInt8) (h:¬ (65<=u.toNat/\u.toNat<=70)):Lib.indexByte aDl u=qJ (aJ u):=by
 have:=qD (fun u=>decide (65<=u.toNat/\u.toNat<=70) || (Lib.indexByte aDl u == qJ (aJ u))) (by decide +kernel) u;rw[Bool.or_eq_true] at this;rcases this with h2 | h2
 ·exact absurd (of_decide_eq_true h2) h
 ·exact eq_of_beq h2
theorem aGV (u:UInt8) (h:65<=u.toNat/\u.toNat<=70):Lib.indexByte aDl (u ||| 32)=qJ (aJ u)/\bits .or .u8 (u.toNat:Int) 32=(((u ||| 32:UInt8)).toNat:Int):=by
 have:=qD (fun u=>!decide (65<=u.toNat/\u.toNat<=70) || ((Lib.indexByte aDl (u ||| 32) == qJ (aJ u)) && decide (bits .or .u8 (u.toNat:Int) 32=(((u ||| 32:UInt8)).toNat:Int)))) (by decide +kernel) u;rw[Bool.or_eq_true] at this;rcases this with h2 | h2
 ·rw[Bool.not_eq_true',decide_eq_false_iff_not] at h2;exact absurd h h2
 ·rw[Bool.and_eq_true] at h2;exact⟨eq_of_beq h2.1,of_decide_eq_true h2.2⟩
theorem oP {u:UInt8} {d:Nat} (h:aJ u=some d):d < 16:=by
 unfold aJ at h
 repeat' split at h
 all_goals first | cases h;done | (injection h with h;omega)
theorem fY (x u:Nat) (hx:x < 65536) (hu:u < 16):bits .or .i32 ((x:Int) * 16) (u:Int)=((x * 16+u:Nat):Int):=by
 have e1:((x:Int) * 16)=((x * 16:Nat):Int):=by omega
 have h:=Nat.shiftLeft_add_eq_or_of_lt (b:=u) (i:=4) (by omega) x;have e:x <<< 4=x * 16:=by rw[Nat.shiftLeft_eq]
 rw[e] at h;rw[e1]
 show IntKind.i32.wrap ((BitVec.ofInt 32 ((x * 16:Nat):Int) ||| BitVec.ofInt 32 (u:Int)).toNat:Int)=_
 rw[BitVec.toNat_or,BitVec.ofInt_natCast,BitVec.ofInt_natCast,BitVec.toNat_ofNat,BitVec.toNat_ofNat,Nat.mod_eq_of_lt (by omega),Nat.mod_eq_of_lt (by omega),<- h];rw[IntKind.wrap_i32];omega
theorem aDm {u uu:UInt8} (h:Lib.indexByte aDl uu=qJ (aJ u)) (w:World):Calls Tryz.prog 154 #[.string { data:=#[48,49,50,51,52,53,54,55,56,57,97,98,99,100,101,102] },.int .u8 (uu.toNat:Int)] w fun e w'=>e=.returned (.int .i64 (qJ (aJ u)))/\w=w':=by
 refine(jH _ uu w).mono ?_;rintro e w' ⟨rfl,rfl⟩;exact⟨by rw[<- h];rfl,rfl⟩
def qR (o:Option Nat):Value:=match o with
 | none=>.tuple #[.int .i32 0,.bool false]
 | some v=>.tuple #[.int .i32 (v:Int),.bool true]
def UnRel (w:World) (l:List UInt8) (j:Nat) (v4 v20:Value) (wr:World):Prop:=∃ i v:Nat,i+j=4/\v4=.int .i32 (v:Int)/\v20=.int .i64 (i:Int)/\yG 0 l=yG v (l.drop i)/\v < 16 ^ i/\Fr [] w wr
theorem eV {v:Nat} {c:UInt8} {cs:List UInt8} (h:aJ c=none):yG v (c :: cs)=none:=by unfold yG;simp only[h]
theorem fV {v d:Nat} {c:UInt8} {cs:List UInt8} (h:aJ c=some d):yG v (c :: cs)=yG (v * 16+d) cs:=by rw[yG];simp only[h]
theorem gY {w:World} {A:Option Addr} {n c g:Nat} {bs:List UInt8} (hv:pB w (.slice A n c) bs g) (hc:c<=9223372036854775807):RV 220 #[.slice A n c] w (qR (oD bs)):=by
 refine bA fun R HQ=>?_;obtain⟨hn,hnc⟩:=hv.len;obtain⟨A',c',off,hv',hcl,hb⟩:=hv;injection hv' with e1 e2 e3;subst e1 e3;clear e2 hcl
 by_cases h5:n < 5
 ·have HE:Hid (oD bs=none):=lh (by unfold oD;rw[if_neg (by omega)]);have d5:decide ((n:Int) < 5)=true:=dT (by omega)
  clear hb hn hnc
  go_enter Tryz.func220,Tryz.ntmps220
  go_wp2_with fail;exact HQ.o _ _ ⟨by rw[HE.o];rfl,Fr.refl _ _⟩
 ·have d5:decide ((n:Int) < 5)=false:=dF (by omega)
  obtain⟨b0,l,rfl⟩:∃ b0 l,bs=b0 :: l:=by
   match bs,hn with
   | b0 :: l,_=>exact⟨b0,l,rfl⟩
   | [],hn=>simp at hn;omega
  obtain⟨rfl,hcell⟩:=hb (by simp);have c0:=hcell 0 (B8 b0) rfl;rw[Nat.add_zero] at c0;unfold B8 at c0
  have HC:Hid (∀ W,Fr [] w W -> ∀ (j:Nat) (u:UInt8),((l.take 4))[j]? = some u -> W.cell? ⟨g,off+1+j,none⟩=some (.int .u8 (u.toNat:Int))):=lh fun W hW j u hu=>by
   have hu':l[j]? = some u:=by
    rw[List.getElem?_take] at hu
    split at hu
    ·exact hu
    ·cases hu
   have h1:=hcell (j+1) (B8 u) (by rw[iJ,List.getElem?_cons_succ,hu'];rfl);rw[show off+(j+1)=off+1+j by omega] at h1;rw[hW.cell (World.block_lt_of_cell? w _ h1) (by simp)];exact h1
  have hl4:(l.take 4).length=4:=by rw[List.length_take];simp at hn;omega
  have h0n:0 < n:=by omega
  have h5n:5<=c:=by omega
  have h1n:¬ c=1:=by omega
  by_cases hu0:b0=117
  ·subst hu0;have HE:Hid (oD (117 :: l)=yG 0 (l.take 4)):=lh (by unfold oD;rw[if_pos ⟨by rw[<- hn];omega,rfl⟩];rfl);clear hb hcell hn hnc;rw[show((117:UInt8).toNat:Int)=117 from rfl] at c0
   go_enter Tryz.func220,Tryz.ntmps220
   go_wp2_with fail
   go_loopg [4,20] 4 (UnRel w (l.take 4))
   case atStart=>exact⟨0,0,rfl,rfl,rfl,by simp,by simp,Fr.refl _ _⟩
   case round=>
    obtain⟨i,v,hi,rfl,rfl,he,hvl,hf⟩:=hrel;have HE2:=lh he;have HF:=lh hf;clear he hf c0
    by_cases hi4:i < 4
    ·obtain⟨k1,rfl⟩:∃ k1,gk=k1+1:=⟨gk - 1,by omega⟩;obtain⟨u,hu⟩:∃ u,(l.take 4)[i]? = some u:=gx (by omega);have cu:=HC.o wr HF.o i u hu;have HD:Hid ((l.take 4).drop i=u :: (l.take 4).drop (i+1)):=lh (xA hu)
     have hv16:v < 4096:=by
      have:i=0 ∨ i=1 ∨ i=2 ∨ i=3:=by omega
      rcases this with rfl | rfl | rfl | rfl <;> simp at hvl <;> omega
     have HV:=lh hvl;have d0:decide ((i:Int) < 4)=true:=dT (by omega)
     clear hu hvl
     by_cases hup:65<=u.toNat/\u.toNat<=70
     ·obtain⟨x1,x2⟩:=aGV u hup;obtain⟨u1,u2⟩:=hup;have t1:decide (65<=(u.toNat:Int))=true:=dT (by omega)
      have t2:decide ((u.toNat:Int)<=70)=true:=dT (by omega)
      obtain⟨uu,huu⟩:∃ uu,u ||| 32=uu:=⟨_,rfl⟩;rw[huu] at x1 x2;clear huu;have X1:=lh x1;clear x1;go_wp2_with fail;refine(aDm X1.o _).mono ?_;rintro e w1 ⟨rfl,rfl⟩
      cases hd:aJ u with
      | none=>
       have HEE:Hid (oD (117 :: l)=none):=lh (by rw[HE.o,HE2.o,HD.o,eV hd]);clear hd;simp only[qJ];go_wp2_with fail;exact HQ.o _ _ ⟨by rw[HEE.o];rfl,HF.o⟩
      | some d=>
       have hd16:=oP hd;have HE3:Hid (yG 0 (l.take 4)=yG (v * 16+d) ((l.take 4).drop (i+1))):=lh (by rw[HE2.o,HD.o,fV hd]);have b1:=fY v d (by omega) hd16;have b2:IntKind.i32.wrap ((v:Int) * 16)=(v:Int) * 16:=by rw[IntKind.wrap_i32];omega
       have b3:IntKind.i32.wrap (d:Int)=(d:Int):=by rw[IntKind.wrap_i32];omega
       have d2:decide ((d:Int) < 0)=false:=dF (by omega)
       clear hd;simp only[qJ];go_wp2_with fail
       go_roundg k1
       case measure=>omega
       case rel=>exact⟨i+1,v * 16+d,by omega,by go_num,by go_num,HE3.o,by have:=HV.o;rw[Nat.pow_succ];omega,HF.o⟩
     ·have x1:=aFe u hup;have X1:=lh x1;clear x1
      by_cases u1:65<=u.toNat
      case' pos=>
       have t1:decide (65<=(u.toNat:Int))=true:=dT (by omega)
       have t2:decide ((u.toNat:Int)<=70)=false:=dF (by omega)
      case' neg=>
       have t1:decide (65<=(u.toNat:Int))=false:=dF (by omega)
      all_goals
       clear hup;go_wp2_with fail;refine(aDm X1.o _).mono ?_;rintro e w1 ⟨rfl,rfl⟩
       cases hd:aJ u with
       | none=>
        have HEE:Hid (oD (117 :: l)=none):=lh (by rw[HE.o,HE2.o,HD.o,eV hd]);clear hd;simp only[qJ];go_wp2_with fail;exact HQ.o _ _ ⟨by rw[HEE.o];rfl,HF.o⟩
       | some d=>
        have hd16:=oP hd;have HE3:Hid (yG 0 (l.take 4)=yG (v * 16+d) ((l.take 4).drop (i+1))):=lh (by rw[HE2.o,HD.o,fV hd]);have b1:=fY v d (by omega) hd16;have b2:IntKind.i32.wrap ((v:Int) * 16)=(v:Int) * 16:=by rw[IntKind.wrap_i32];omega
        have b3:IntKind.i32.wrap (d:Int)=(d:Int):=by rw[IntKind.wrap_i32];omega
        have d2:decide ((d:Int) < 0)=false:=dF (by omega)
        clear hd;simp only[qJ];go_wp2_with fail
        go_roundg k1
        case measure=>omega
        case rel=>exact⟨i+1,v * 16+d,by omega,by go_num,by go_num,HE3.o,by have:=HV.o;rw[Nat.pow_succ];omega,HF.o⟩
    ·obtain rfl:i=4:=by omega
     have HEE:Hid (oD (117 :: l)=some v):=lh (by rw[HE.o,HE2.o,List.drop_of_length_le (by omega)];rfl);clear hi4 hvl hi;rw[show((4:Nat):Int)=4 from rfl];go_wp2_with fail;exact HQ.o _ _ ⟨by rw[HEE.o];rfl,HF.o⟩
  ·have HE:Hid (oD (b0 :: l)=none):=lh (by unfold oD;rw[if_neg];rintro⟨_,h⟩;exact hu0 (by simpa[jA] using h))
   have d6:((b0.toNat:Int) != 117)=true:=by
    rw[bne_iff_ne];intro e;exact hu0 (UInt8.toNat_inj.1 (by have:b0.toNat=117:=(by omega);rw[this];rfl))
   clear hb hcell hn hnc hu0
   go_enter Tryz.func220,Tryz.ntmps220
   go_wp2_with fail;exact HQ.o _ _ ⟨by rw[HE.o];rfl,Fr.refl _ _⟩
def kH (v:Nat) (bs:List UInt8):Option Nat:=
 if v<=56319/\6<=bs.length/\jA 92 bs=true then
  match oD (bs.drop 1) with
  | none=>none
  | some x=>if 56320<=x/\x<=57343 then some (65536+(v - 55296) * 1024+(x - 56320)) else none
 else none
theorem aBx:∀ {l:List UInt8} {v x:Nat},yG v l=some x -> x < (v+1) * 16 ^ l.length
 | [],v,x,h=>by simp[yG] at h;subst h;simp
 | c :: cs,v,x,h=>by
  unfold yG at h
  split at h
  ·cases h
  ·rename_i d hd
   have:=aBx h;have h2:=oP hd;have h3:(v * 16+d+1) * 16 ^ cs.length<=((v+1) * 16) * 16 ^ cs.length:=Nat.mul_le_mul_right _ (by omega);rw[List.length_cons,Nat.pow_succ,Nat.mul_comm (16 ^ cs.length) 16,<- Nat.mul_assoc];omega
theorem pP {l:List UInt8} {x:Nat} (h:oD l=some x):x < 65536:=by
 unfold oD at h
 split at h
 ·have:=aBx h;have h2:(List.take 4 (List.drop 1 l)).length<=4:=by rw[List.length_take];omega
  have h3:16 ^ (List.take 4 (List.drop 1 l)).length<=16 ^ 4:=Nat.pow_le_pow_right (by omega) h2;omega
 ·cases h
theorem aFf (c:UInt8) (cs:List UInt8) (h1:¬ (c.toNat=34 ∨ c.toNat=47 ∨ c.toNat=92)) (h2:c.toNat ≠ 98) (h3:c.toNat ≠ 116) (h4:c.toNat ≠ 110) (h5:c.toNat ≠ 102) (h6:c.toNat ≠ 114):
  aH (c :: cs)=match oD (c :: cs) with
   | none=>none
   | some v=>if lB (v:Int)=true then some (v,5) else (kH v ((c :: cs).drop 5)).map fun r=>(r,11):=by
 rw[aH];rw[if_neg h1,if_neg h2,if_neg h3,if_neg h4,if_neg h5,if_neg h6]
 cases hu:oD (c :: cs) with
 | none=>rfl
 | some v=>
  simp only
  split
  ·rfl
  ·unfold kH;have e:(List.drop 5 (c :: cs)).length=(c :: cs).length - 5:=List.length_drop
   by_cases h:v<=56319/\11<=(c :: cs).length/\jA 92 ((c :: cs).drop 5)=true
   ·rw[if_pos h,if_pos ⟨h.1,by omega,h.2.2⟩,List.drop_drop]
    cases oD ((c :: cs).drop (5+1)) with
    | none=>rfl
    | some x=>simp only;split <;> rfl
   ·rw[if_neg h,if_neg (fun h'=>h ⟨h'.1,by omega,h'.2.2⟩)]
    rfl
theorem pB.head {w:World} {A:Option Addr} {n c g:Nat} {b:UInt8} {l:List UInt8} (hv:pB w (.slice A n c) (b :: l) g):∃ off,A=some ⟨g,off,none⟩/\w.cell? ⟨g,off,none⟩=some (.int .u8 (b.toNat:Int)):=by
 obtain⟨A',c',off,hv',hcl,hb⟩:=hv;injection hv' with e1 e2 e3;subst e1;obtain⟨h1,h2⟩:=hb (by simp);refine⟨off,h1,?_⟩;have:=h2 0 (B8 b) rfl;rw[Nat.add_zero] at this;exact this
theorem aDn {w:World} {A:Option Addr} {n c g:Nat} {bs:List UInt8} (v:Nat) (h1:55296<=v) (h2:v<=57343) (hv:pB w (.slice A n c) bs g) (hc:c<=9223372036854775807):RV 221 #[.int .i32 (v:Int),.slice A n c] w (qR (kH v bs)):=by
 refine bA fun R HQ=>?_;obtain⟨hn,hnc⟩:=hv.len;have HV:=lh hv;have HN:=lh hn;clear hv
 by_cases hhi:56319 < v
 ·have HE:Hid (kH v bs=none):=lh (by unfold kH;rw[if_neg (by omega)]);have d1:decide (56319 < (v:Int))=true:=dT (by omega)
  clear hn
  go_enter Tryz.func221,Tryz.ntmps221
  go_wp2_with fail;exact HQ.o _ _ ⟨by rw[HE.o];rfl,Fr.refl _ _⟩
 ·have d1:decide (56319 < (v:Int))=false:=dF (by omega)
  by_cases h6:n < 6
  ·have HE:Hid (kH v bs=none):=lh (by unfold kH;rw[if_neg (by omega)]);have d6:decide ((n:Int) < 6)=true:=dT (by omega)
   clear hn
   go_enter Tryz.func221,Tryz.ntmps221
   go_wp2_with fail;exact HQ.o _ _ ⟨by rw[HE.o];rfl,Fr.refl _ _⟩
  ·have d6:decide ((n:Int) < 6)=false:=dF (by omega)
   obtain⟨b0,l,rfl⟩:∃ b0 l,bs=b0 :: l:=by
    match bs,hn with
    | b0 :: l,_=>exact⟨b0,l,rfl⟩
    | [],hn=>simp at hn;omega
   obtain⟨off,rfl,c0⟩:=HV.o.head;have h0n:0 < n:=by omega
   by_cases hb:b0=92
   ·subst hb;rw[show((92:UInt8).toNat:Int)=92 from rfl] at c0;have hbs:=HV.o.from_ 1 (by omega);rw[<- HN.o] at hbs;have hsl:=iD (P:=Tryz.prog) (t:=149) Tryz.underlying149 (by kernel_rfl) (some ⟨g,off,none⟩) n c 1 .i64 (by omega);have hcn:n<=c:=by omega
    generalize (if c=1 then (some (⟨g,off,none⟩:Addr)) else (some (⟨g,off,none⟩:Addr)).map (·.add 1))=sa at *;have HBS:=lh hbs;have hs1:=hsl w;rw[show((1:Nat):Int)=1 from rfl] at hs1;have HE:Hid (kH v (92 :: l)=match oD (List.drop 1 (92 :: l)) with | none=>none | some x=>if 56320<=x/\x<=57343 then some (65536+(v - 55296) * 1024+(x - 56320)) else none):=lh (by unfold kH;rw[if_pos ⟨by omega,by rw[<- hn];omega,rfl⟩]);clear hbs hsl hn
    go_enter Tryz.func221,Tryz.ntmps221
    go_wp2_with fail;refine(gY HBS.o (by omega)).mono ?_;rintro e w1 ⟨rfl,hf1⟩;have HF1:=lh hf1;clear hf1 hs1
    cases hu:oD (List.drop 1 (92 :: l)) with
    | none=>
     have HEE:Hid (kH v (92 :: l)=none):=lh (by rw[HE.o,hu]);clear hu;simp only[qR];go_wp2_with fail;exact HQ.o _ _ ⟨by rw[HEE.o];rfl,HF1.o⟩
    | some x=>
     have hx:=pP hu;simp only[qR]
     by_cases hx1:x < 56320
     ·have HEE:Hid (kH v (92 :: l)=none):=lh (by rw[HE.o,hu];simp only;rw[if_neg (by omega)]);have dx:decide ((x:Int) < 56320)=true:=dT (by omega)
      clear hu;go_wp2_with fail;exact HQ.o _ _ ⟨by rw[HEE.o];rfl,HF1.o⟩
     ·have dx:decide ((x:Int) < 56320)=false:=dF (by omega)
      by_cases hx2:57343 < x
      ·have HEE:Hid (kH v (92 :: l)=none):=lh (by rw[HE.o,hu];simp only;rw[if_neg (by omega)]);have dy:decide (57343 < (x:Int))=true:=dT (by omega)
       clear hu;go_wp2_with fail;exact HQ.o _ _ ⟨by rw[HEE.o];rfl,HF1.o⟩
      ·have dy:decide (57343 < (x:Int))=false:=dF (by omega)
       obtain⟨r,hr⟩:∃ r,65536+(v - 55296) * 1024+(x - 56320)=r:=⟨_,rfl⟩;have HEE:Hid (kH v (92 :: l)=some r):=lh (by rw[HE.o,hu];simp only;rw[if_pos ⟨by omega,by omega⟩,hr]);have HR:Hid (65536+((v:Int) - 55296) * 1024+(x:Int) - 56320=(r:Int)):=lh (by omega);clear hu hr;go_wp2_with fail;exact HQ.o _ _ ⟨by rw[HEE.o];show Ending.returned (.tuple #[.int .i32 (65536+((v:Int) - 55296) * 1024+(x:Int) - 56320),.bool true])=_;rw[HR.o];rfl,HF1.o⟩
   ·have HE:Hid (kH v (b0 :: l)=none):=lh (by unfold kH;rw[if_neg];rintro⟨_,_,h⟩;exact hb (by simpa[jA] using h))
    have d7:((b0.toNat:Int) != 92)=true:=by
     rw[bne_iff_ne];intro e;exact hb (UInt8.toNat_inj.1 (by have:b0.toNat=92:=(by omega);rw[this];rfl))
    clear hn hb
    go_enter Tryz.func221,Tryz.ntmps221
    go_wp2_with fail;exact HQ.o _ _ ⟨by rw[HE.o];rfl,Fr.refl _ _⟩
def aCb (o:Option (Nat × Nat)):Value:=match o with
 | none=>.tuple #[.int .i32 0,.int .i64 0]
 | some (r,k)=>.tuple #[.int .i32 (r:Int),.int .i64 (k:Int)]
def quoS:List UInt8:=[34,47,92]
def namS:List UInt8:=[98,116,110,102,114]
def rR (c:UInt8):Bool:=decide (c.toNat=34 ∨ c.toNat=47 ∨ c.toNat=92)
def qP (c:UInt8):Option Nat:=if c.toNat=98 then some 0 else if c.toNat=116 then some 1 else if c.toNat=110 then some 2 else if c.toNat=102 then some 3 else if c.toNat=114 then some 4 else none
def aGF:Nat -> Nat
 | 0=>8
 | 1=>9
 | 2=>10
 | 3=>12
 | _=>13
theorem aFg (c:UInt8):decide (0<=Lib.indexByte quoS c)=rR c:=eq_of_beq (qD (fun c=>decide (0<=Lib.indexByte quoS c) == rR c) (by decide +kernel) c)
theorem aFh (c:UInt8):Lib.indexByte namS c=qJ (qP c):=eq_of_beq (qD (fun c=>Lib.indexByte namS c == qJ (qP c)) (by decide +kernel) c)
theorem aGW (c:UInt8) (w:World):Calls Tryz.prog 154 #[.string { data:=#[34,47,92] },.int .u8 (c.toNat:Int)] w fun e w'=>∃ x:Int,e=.returned (.int .i64 x)/\decide (0<=x)=rR c/\w=w':=by
 refine(jH _ c w).mono ?_;rintro e w' ⟨rfl,rfl⟩;exact⟨_,rfl,aFg c,rfl⟩
theorem aGX (c:UInt8) (w:World):Calls Tryz.prog 154 #[.string { data:=#[98,116,110,102,114] },.int .u8 (c.toNat:Int)] w fun e w'=>e=.returned (.int .i64 (qJ (qP c)))/\w=w':=by
 refine(jH _ c w).mono ?_;rintro e w' ⟨rfl,rfl⟩;exact⟨by rw[<- aFh];rfl,rfl⟩
theorem iY {c:UInt8} {cs:List UInt8} (h:rR c=true):aH (c :: cs)=some (c.toNat,1):=by
 rw[aH,if_pos (of_decide_eq_true h)]
theorem jY {c:UInt8} {cs:List UInt8} {k:Nat} (h:rR c=false) (hk:qP c=some k):k < 5/\aH (c :: cs)=some (aGF k,1):=by
 have h0:=of_decide_eq_false h;rw[aH,if_neg h0];unfold qP at hk
 by_cases h1:c.toNat=98
 ·rw[if_pos h1] at hk ⊢;injection hk with hk;subst hk;exact⟨by omega,rfl⟩
 ·rw[if_neg h1] at hk ⊢
  by_cases h2:c.toNat=116
  ·rw[if_pos h2] at hk ⊢;injection hk with hk;subst hk;exact⟨by omega,rfl⟩
  ·rw[if_neg h2] at hk ⊢
   by_cases h3:c.toNat=110
   ·rw[if_pos h3] at hk ⊢;injection hk with hk;subst hk;exact⟨by omega,rfl⟩
   ·rw[if_neg h3] at hk ⊢
    by_cases h4:c.toNat=102
    ·rw[if_pos h4] at hk ⊢;injection hk with hk;subst hk;exact⟨by omega,rfl⟩
    ·rw[if_neg h4] at hk ⊢
     by_cases h5:c.toNat=114
     ·rw[if_pos h5] at hk ⊢;injection hk with hk;subst hk;exact⟨by omega,rfl⟩
     ·rw[if_neg h5] at hk;cases hk
theorem gV {c:UInt8} {cs:List UInt8} (h:rR c=false) (hk:qP c=none):aH (c :: cs)=match oD (c :: cs) with
   | none=>none
   | some v=>if lB (v:Int)=true then some (v,5) else (kH v ((c :: cs).drop 5)).map fun r=>(r,11):=by
 unfold qP at hk;have h0:=of_decide_eq_false h
 by_cases h1:c.toNat=98
 ·rw[if_pos h1] at hk;cases hk
 ·rw[if_neg h1] at hk
  by_cases h2:c.toNat=116
  ·rw[if_pos h2] at hk;cases hk
  ·rw[if_neg h2] at hk
   by_cases h3:c.toNat=110
   ·rw[if_pos h3] at hk;cases hk
   ·rw[if_neg h3] at hk
    by_cases h4:c.toNat=102
    ·rw[if_pos h4] at hk;cases hk
    ·rw[if_neg h4] at hk
     by_cases h5:c.toNat=114
     ·rw[if_pos h5] at hk;cases hk
     ·exact aFf c cs h0 h1 h2 h3 h4 h5
theorem yS {w:World} {A:Option Addr} {n c g:Nat} {bs:List UInt8} (hv:pB w (.slice A n c) bs g) (hc:c<=9223372036854775807):RV 195 #[.slice A n c] w (aCb (aH bs)):=by
 refine bA fun R HQ=>?_;obtain⟨hn,hnc⟩:=hv.len;have HV:=lh hv;have HN:=lh hn;clear hv
 cases bs with
 | nil=>
  have hn0:n=0:=by simpa using hn
  subst hn0;clear hn
  go_enter Tryz.func195,Tryz.ntmps195
  go_wp2_with fail;exact HQ.o _ _ ⟨rfl,Fr.refl _ _⟩
 | cons b0 l=>
  obtain⟨off,rfl,c0⟩:=HV.o.head;have h0n:0 < n:=by rw[hn];simp
  have d0:((n:Int) == 0)=false:=by simp;omega
  have hcn:n<=c:=by omega
  clear hn hnc
  go_enter Tryz.func195,Tryz.ntmps195
  go_wp2_with fail;refine(aGW b0 _).mono ?_;rintro e w1 ⟨x,rfl,hx,rfl⟩
  cases hq:rR b0 with
  | true=>
   have HE:Hid (aH (b0 :: l)=some (b0.toNat,1)):=lh (iY hq);have b3:IntKind.i32.wrap (b0.toNat:Int)=(b0.toNat:Int):=by rw[IntKind.wrap_i32];have:=b0.toNat_lt;omega
   rw[hq] at hx;clear hq;go_wp2_with fail;exact HQ.o _ _ ⟨by rw[HE.o];rfl,Fr.refl _ _⟩
  | false=>
   have HQU:=lh hq;rw[hq] at hx;clear hq;go_wp2_with fail;refine(aGX b0 _).mono ?_;rintro e w1 ⟨rfl,rfl⟩
   cases hnm:qP b0 with
   | some k=>
    obtain⟨hk5,he⟩:=jY (cs:=l) HQU.o hnm;have HE:=lh he;clear he hnm hx;simp only[qJ];have hk:k=0 ∨ k=1 ∨ k=2 ∨ k=3 ∨ k=4:=by omega
    rcases hk with rfl | rfl | rfl | rfl | rfl
    ·skip
     rw[show((0:Nat):Int)=0 from rfl];go_wp2_with fail;exact HQ.o _ _ ⟨by rw[HE.o];kernel_rfl,Fr.refl _ _⟩
    ·skip
     rw[show((1:Nat):Int)=1 from rfl];go_wp2_with fail;exact HQ.o _ _ ⟨by rw[HE.o];kernel_rfl,Fr.refl _ _⟩
    ·skip
     rw[show((2:Nat):Int)=2 from rfl];go_wp2_with fail;exact HQ.o _ _ ⟨by rw[HE.o];kernel_rfl,Fr.refl _ _⟩
    ·skip
     rw[show((3:Nat):Int)=3 from rfl];go_wp2_with fail;exact HQ.o _ _ ⟨by rw[HE.o];kernel_rfl,Fr.refl _ _⟩
    ·skip
     rw[show((4:Nat):Int)=4 from rfl];go_wp2_with fail;exact HQ.o _ _ ⟨by rw[HE.o];kernel_rfl,Fr.refl _ _⟩
   | none=>
    have HE:=lh (gV (cs:=l) HQU.o hnm);clear hnm hx;simp only[qJ];go_wp2_with fail;refine(gY HV.o (by omega)).mono ?_;rintro e w1 ⟨rfl,hf1⟩;have HF1:=lh hf1;clear hf1
    cases hu:oD (b0 :: l) with
    | none=>
     have HEE:Hid (aH (b0 :: l)=none):=lh (by rw[HE.o,hu]);clear hu;simp only[qR];go_wp2_with fail;exact HQ.o _ _ ⟨by rw[HEE.o];rfl,HF1.o⟩
    | some v=>
     have hv16:=pP hu
     have h5n:5<=n:=by
      unfold oD at hu
      split at hu
      ·rename_i h;rw[HN.o];exact h.1
      ·cases hu
     simp only[qR]
     cases hso:lB (v:Int) with
     | true=>
      have HEE:Hid (aH (b0 :: l)=some (v,5)):=lh (by rw[HE.o,hu];simp only;rw[if_pos hso]);have HSO:=lh hso;clear hu hso;go_wp2_with fail;refine(zH _ _).mono ?_;rintro e w2 ⟨rfl,rfl⟩;rw[HSO.o];go_wp2_with fail;exact HQ.o _ _ ⟨by rw[HEE.o];rfl,HF1.o⟩
     | false=>
      have hvb:55296<=v/\v<=57343:=by
       unfold lB at hso;rw[decide_eq_false_iff_not] at hso;omega
      have HEP:Hid (aH (b0 :: l)=(kH v ((b0 :: l).drop 5)).map fun r=>(r,11)):=lh (by rw[HE.o,hu];simp only;rw[if_neg (by rw[hso];simp)]);have hbs:=(HV.o.fr HF1.o).from_ 5 (by rw[<- HN.o];exact h5n);rw[<- HN.o] at hbs;have hsl:=iD (P:=Tryz.prog) (t:=149) Tryz.underlying149 (by kernel_rfl) (some ⟨g,off,none⟩) n c 5 .i64 h5n;generalize (if c=5 then (some (⟨g,off,none⟩:Addr)) else (some (⟨g,off,none⟩:Addr)).map (·.add 5))=sa at *;have HBS:=lh hbs;have hs1:=hsl w1;rw[show((5:Nat):Int)=5 from rfl] at hs1;have HSO:=lh hso;clear hbs hsl hu hso;go_wp2_with fail;refine(zH _ _).mono ?_;rintro e w2 ⟨rfl,rfl⟩;rw[HSO.o];go_wp2_with fail;refine(aDn v hvb.1 hvb.2 HBS.o (by omega)).mono ?_;rintro e w3 ⟨rfl,hf3⟩;have HF3:=lh (HF1.o.trans hf3);clear hf3 hs1
      cases hp:kH v (List.drop 5 (b0 :: l)) with
      | none=>
       have HEE:Hid (aH (b0 :: l)=none):=lh (by rw[HEP.o,hp];rfl);clear hp;simp only[qR];go_wp2_with fail;exact HQ.o _ _ ⟨by rw[HEE.o];rfl,HF3.o⟩
      | some r=>
       have HEE:Hid (aH (b0 :: l)=some (r,11)):=lh (by rw[HEP.o,hp];rfl);clear hp;simp only[qR];go_wp2_with fail;exact HQ.o _ _ ⟨by rw[HEE.o];rfl,HF3.o⟩
end
end Go.Proofs.YtbggkiebfflcdaaGreatDoor
