import Derived.Shelf.Strings.Builder1
import Derived.Shelf.Strings.Builder2
import Derived.Shelf.Strings.OnBuilder
import Derived.Shelf.Small.Bits
import Derived.Shelf.Small.Wraps
import Derived.Shelf.Strconv.Atoi
import Derived.Shelf.Strconv.Itoa0
import Derived.Shelf.Strconv.Itoa1
import Derived.Shelf.LaysM
import Derived.Shelf.Strconv.Itoa2
import Derived.Shelf.Strconv.Itoa3
import Derived.Shelf.Strconv.AtoiErrFast
import Derived.Shelf.Strconv.ParseIntEmpty
import Derived.Shelf.Strconv.AtoiFail
import Derived.Shelf.Strconv.Clone
import Derived.Shelf.Strconv.SyntaxError
import Derived.Shelf.LaysC
import Derived.Shelf.Strconv.ToError
import Derived.Shelf.Strconv.Lower
import Derived.Shelf.Strconv.ParseUint10
import Derived.Shelf.Strconv.ParseUint10Empty
import Derived.Shelf.Strconv.ParseUint10Any
import Derived.Shelf.Strconv.ParseInt10
import Derived.Shelf.Strconv.AtoiLong
import Derived.Shelf.Strconv.AtoiInnerAll
import Derived.Shelf.Strconv.RangeError
import Derived.Shelf.Strconv.ToErrorRange
import Derived.Shelf.Strconv.AtoiAll
import Derived.Shelf.Strings.Search1
import Derived.Shelf.Strings.Search2
import Derived.Shelf.Strings.Search3
import Derived.Shelf.Strings.Cut
import Derived.Shelf.Strings.Count
import Derived.Shelf.Strings.Shaped
import Derived.Shelf.Strings.Prefix
import Derived.Shelf.Strings.Split
import Derived.Shelf.Strings.SplitShaped
import Derived.Shelf.Bits.Mul64
import Derived.Shelf.Unicode.DecodeSlow
import Derived.Shelf.Slices.Reverse
import Derived.Shelf.Slices.Cells
import Derived.Test.YtoglgeaiiipchaaGreatDoorProg
namespace Go.Proofs.YtoglgeaiiipchaaGreatDoor
open Go.Shelf
def Tryz.lays169_ren:Go.Shelf.Ren:=⟨fun|169=>97|n=>n,fun|70=>137|9=>9|0=>0|72=>140|37=>138|127=>182|3=>3|5=>5|n=>n,fun|n=>n⟩
theorem Tryz.lays169:Go.Proofs.Lays.n169 Tryz.prog Tryz.lays169_ren:={
 mixed:=by kernel_rfl
 f169:=Tryz.func97.trans (congrArg some (by kernel_rfl))
 t0:=Tryz.underlying0
 a0:=Tryz.isAgg0
 z0:=Tryz.sizeOf0
 v0:=Tryz.zeroValue0
 t3:=Tryz.underlying3
 a3:=Tryz.isAgg3
 z3:=Tryz.sizeOf3
 v3:=Tryz.zeroValue3
 t9:=Tryz.underlying9
 a9:=Tryz.isAgg9
 z9:=Tryz.sizeOf9
 v9:=Tryz.zeroValue9
 t37:=Tryz.underlying138
 a37:=Tryz.isAgg138
 z37:=Tryz.sizeOf138
 v37:=Tryz.zeroValue138
 t70:=Tryz.underlying137
 a70:=Tryz.isAgg137
 z70:=Tryz.sizeOf137
 v70:=Tryz.zeroValue137
 t72:=Tryz.underlying140
 a72:=Tryz.isAgg140
 z72:=Tryz.sizeOf140
 v72:=Tryz.zeroValue140
 t127:=Tryz.underlying182
 a127:=Tryz.isAgg182
 z127:=Tryz.sizeOf182
 v127:=Tryz.zeroValue182}
theorem Tryz.Builder_Extra_169:Builder.Extra Tryz.prog Tryz.lays169_ren:={
 sizeBuilder:=by kernel_rfl
 liesBuilder:=by kernel_rfl
 t5:=Tryz.underlying5
 a5:=Tryz.isAgg5
 z5:=Tryz.sizeOf5
 v5:=Tryz.zeroValue5
 infoByte:=by kernel_rfl
 cellsByte:=by kernel_rfl
 sizeByte:=by kernel_rfl
 neB5:=by decide}
open Go.RowKit in
theorem Tryz.Builder_String_any (B b:Nat) (l:List UInt8) (w:World) (h:Lib.IsBuilder 140 5 B b (Lib.byteCells l) w) (hBw:B≤w.heap.size):
  Calls Tryz.prog 97 #[.pointer (some ⟨b,0,none⟩)] w fun e w'=>e=.returned (.string ⟨l.toArray⟩)∧Below B w w':=Any.Builder_String_any Tryz.lays169 Tryz.Builder_Extra_169 B b l w h hBw
def Tryz.lays156_ren:Go.Shelf.Ren:=⟨fun|156=>133|165=>159|166=>95|169=>97|240=>132|241=>180|276=>158|277=>195|n=>n,fun|31=>180|9=>9|3=>3|4=>4|0=>0|20=>20|72=>140|76=>143|70=>137|37=>138|75=>142|127=>182|164=>212|5=>5|80=>146|n=>n,fun|n=>n⟩
theorem Tryz.lays156:Go.Proofs.Lays.n156 Tryz.prog Tryz.lays156_ren:={
 mixed:=by kernel_rfl
 f156:=Tryz.func133.trans (congrArg some (by kernel_rfl))
 f165:=Tryz.func159.trans (congrArg some (by kernel_rfl))
 f166:=Tryz.func95.trans (congrArg some (by kernel_rfl))
 f169:=Tryz.func97.trans (congrArg some (by kernel_rfl))
 f240:=Tryz.func132.trans (congrArg some (by kernel_rfl))
 f241:=Tryz.func180.trans (congrArg some (by kernel_rfl))
 f276:=Tryz.func158.trans (congrArg some (by kernel_rfl))
 f277:=Tryz.func195.trans (congrArg some (by kernel_rfl))
 t0:=Tryz.underlying0
 a0:=Tryz.isAgg0
 z0:=Tryz.sizeOf0
 v0:=Tryz.zeroValue0
 t3:=Tryz.underlying3
 a3:=Tryz.isAgg3
 z3:=Tryz.sizeOf3
 v3:=Tryz.zeroValue3
 t4:=Tryz.underlying4
 a4:=Tryz.isAgg4
 z4:=Tryz.sizeOf4
 v4:=Tryz.zeroValue4
 t9:=Tryz.underlying9
 a9:=Tryz.isAgg9
 z9:=Tryz.sizeOf9
 v9:=Tryz.zeroValue9
 t20:=Tryz.underlying20
 a20:=Tryz.isAgg20
 z20:=Tryz.sizeOf20
 v20:=Tryz.zeroValue20
 t31:=Tryz.underlying180
 a31:=Tryz.isAgg180
 z31:=Tryz.sizeOf180
 v31:=Tryz.zeroValue180
 t37:=Tryz.underlying138
 a37:=Tryz.isAgg138
 z37:=Tryz.sizeOf138
 v37:=Tryz.zeroValue138
 t70:=Tryz.underlying137
 a70:=Tryz.isAgg137
 z70:=Tryz.sizeOf137
 v70:=Tryz.zeroValue137
 t72:=Tryz.underlying140
 a72:=Tryz.isAgg140
 z72:=Tryz.sizeOf140
 v72:=Tryz.zeroValue140
 t75:=Tryz.underlying142
 a75:=Tryz.isAgg142
 z75:=Tryz.sizeOf142
 v75:=Tryz.zeroValue142
 t76:=Tryz.underlying143
 a76:=Tryz.isAgg143
 z76:=Tryz.sizeOf143
 v76:=Tryz.zeroValue143
 t127:=Tryz.underlying182
 a127:=Tryz.isAgg182
 z127:=Tryz.sizeOf182
 v127:=Tryz.zeroValue182
 t164:=Tryz.underlying212
 a164:=Tryz.isAgg212
 z164:=Tryz.sizeOf212
 v164:=Tryz.zeroValue212}
theorem Tryz.Builder_Extra_156:Builder.Extra Tryz.prog Tryz.lays156_ren:={
 sizeBuilder:=by kernel_rfl
 liesBuilder:=by kernel_rfl
 t5:=Tryz.underlying5
 a5:=Tryz.isAgg5
 z5:=Tryz.sizeOf5
 v5:=Tryz.zeroValue5
 infoByte:=by kernel_rfl
 cellsByte:=by kernel_rfl
 sizeByte:=by kernel_rfl
 neB5:=by decide}
open Go.RowKit in
theorem Tryz.strings_Join_none (a:Option Addr) (c:Nat) (sep:ByteArray) (w:World):
  Calls Tryz.prog 133 #[.slice a 0 c,.string sep] w fun e w'=>e=.returned (.string ⟨#[]⟩)∧w'=w:=Any.strings_Join_none Tryz.lays156 Tryz.Builder_Extra_156 a c sep w
open Go.RowKit in
theorem Tryz.strings_Join (bk o c:Nat) (xs:List ByteArray) (sep:ByteArray) (w:World) (hcells:∀(j:Nat) x,xs[j]?=some x→w.cell? ⟨bk,o+j,none⟩=some (.string x)) (hbk:bk<w.heap.size) (hN:xs.length≤140737488355328) (hcap:xs.length≤c) (hlen:(Lib.join (xs.map (·.data.toList)) sep.data.toList).length≤140737488355328):
  Calls Tryz.prog 133 #[.slice (some ⟨bk,o,none⟩) xs.length c,.string sep] w fun e w'=>e=.returned (.string ⟨(Lib.join (xs.map (·.data.toList)) sep.data.toList).toArray⟩)∧Below w.heap.size w w':=Any.strings_Join Tryz.lays156 Tryz.Builder_Extra_156 bk o c xs sep w hcells hbk hN hcap hlen
def Tryz.lays103_ren:Go.Shelf.Ren:=⟨fun|103=>162|210=>186|206=>201|n=>n,fun|9=>9|4=>4|24=>217|3=>3|n=>n,fun|n=>n⟩
theorem Tryz.lays103:Go.Proofs.Lays.n103 Tryz.prog Tryz.lays103_ren:={
 mixed:=by kernel_rfl
 f103:=Tryz.func162.trans (congrArg some (by kernel_rfl))
 f206:=Tryz.func201.trans (congrArg some (by kernel_rfl))
 f210:=Tryz.func186.trans (congrArg some (by kernel_rfl))
 t3:=Tryz.underlying3
 a3:=Tryz.isAgg3
 z3:=Tryz.sizeOf3
 v3:=Tryz.zeroValue3
 t4:=Tryz.underlying4
 a4:=Tryz.isAgg4
 z4:=Tryz.sizeOf4
 v4:=Tryz.zeroValue4
 t9:=Tryz.underlying9
 a9:=Tryz.isAgg9
 z9:=Tryz.sizeOf9
 v9:=Tryz.zeroValue9
 t24:=Tryz.underlying217
 a24:=Tryz.isAgg217
 z24:=Tryz.sizeOf217
 v24:=Tryz.zeroValue217}
open Go.RowKit in
theorem Tryz.strings_CutPrefix (s p:ByteArray) (w:World):
  Calls Tryz.prog 162 #[.string s,.string p] w fun e w'=>e=.returned (.tuple #[.string ⟨(Lib.trimPrefix s.data.toList p.data.toList).toArray⟩,.bool (Lib.hasPrefix s.data.toList p.data.toList)])∧w'=w:=Any.strings_CutPrefix Tryz.lays103 s p w
def Tryz.laysM171_ren:Go.Shelf.Ren:=⟨fun|171=>82|243=>129|246=>157|283=>176|284=>177|285=>178|286=>179|129=>156|317=>191|318=>192|319=>193|320=>194|337=>207|338=>208|n=>n,fun|3=>3|9=>9|2=>2|4=>4|171=>233|0=>0|53=>199|37=>138|5=>5|173=>235|212=>246|51=>196|20=>20|213=>247|46=>172|232=>267|233=>268|n=>n,fun|17=>1|18=>4|19=>5|n=>n⟩
theorem Tryz.laysM171:Go.Proofs.LaysM.n171 Tryz.prog Tryz.laysM171_ren:={
 mixed:=by kernel_rfl
 f129:=Tryz.func156.trans (congrArg some (by kernel_rfl))
 f171:=Tryz.func82.trans (congrArg some (by kernel_rfl))
 f243:=Tryz.func129.trans (congrArg some (by kernel_rfl))
 f246:=Tryz.func157.trans (congrArg some (by kernel_rfl))
 f283:=Tryz.func176.trans (congrArg some (by kernel_rfl))
 f284:=Tryz.func177.trans (congrArg some (by kernel_rfl))
 f285:=Tryz.func178.trans (congrArg some (by kernel_rfl))
 f286:=Tryz.func179.trans (congrArg some (by kernel_rfl))
 f317:=Tryz.func191.trans (congrArg some (by kernel_rfl))
 f318:=Tryz.func192.trans (congrArg some (by kernel_rfl))
 f319:=Tryz.func193.trans (congrArg some (by kernel_rfl))
 f320:=Tryz.func194.trans (congrArg some (by kernel_rfl))
 f337:=Tryz.func207.trans (congrArg some (by kernel_rfl))
 f338:=Tryz.func208.trans (congrArg some (by kernel_rfl))
 t0:=Tryz.underlying0
 a0:=Tryz.isAgg0
 z0:=Tryz.sizeOf0
 v0:=Tryz.zeroValue0
 t2:=Tryz.underlying2
 a2:=Tryz.isAgg2
 z2:=Tryz.sizeOf2
 v2:=Tryz.zeroValue2
 t3:=Tryz.underlying3
 a3:=Tryz.isAgg3
 z3:=Tryz.sizeOf3
 v3:=Tryz.zeroValue3
 t4:=Tryz.underlying4
 a4:=Tryz.isAgg4
 z4:=Tryz.sizeOf4
 v4:=Tryz.zeroValue4
 t5:=Tryz.underlying5
 a5:=Tryz.isAgg5
 z5:=Tryz.sizeOf5
 v5:=Tryz.zeroValue5
 t9:=Tryz.underlying9
 a9:=Tryz.isAgg9
 z9:=Tryz.sizeOf9
 v9:=Tryz.zeroValue9
 t20:=Tryz.underlying20
 a20:=Tryz.isAgg20
 z20:=Tryz.sizeOf20
 v20:=Tryz.zeroValue20
 t37:=Tryz.underlying138
 a37:=Tryz.isAgg138
 z37:=Tryz.sizeOf138
 v37:=Tryz.zeroValue138
 t46:=Tryz.underlying172
 a46:=Tryz.isAgg172
 z46:=Tryz.sizeOf172
 v46:=Tryz.zeroValue172
 t51:=Tryz.underlying196
 a51:=Tryz.isAgg196
 z51:=Tryz.sizeOf196
 v51:=Tryz.zeroValue196
 t53:=Tryz.underlying199
 a53:=Tryz.isAgg199
 z53:=Tryz.sizeOf199
 v53:=Tryz.zeroValue199
 t171:=Tryz.underlying233
 a171:=Tryz.isAgg233
 z171:=Tryz.sizeOf233
 v171:=Tryz.zeroValue233
 t173:=Tryz.underlying235
 a173:=Tryz.isAgg235
 z173:=Tryz.sizeOf235
 v173:=Tryz.zeroValue235
 t212:=Tryz.underlying246
 a212:=Tryz.isAgg246
 z212:=Tryz.sizeOf246
 v212:=Tryz.zeroValue246
 t213:=Tryz.underlying247
 a213:=Tryz.isAgg247
 z213:=Tryz.sizeOf247
 t232:=Tryz.underlying267
 a232:=Tryz.isAgg267
 z232:=Tryz.sizeOf267
 v232:=Tryz.zeroValue267
 t233:=Tryz.underlying268
 a233:=Tryz.isAgg268
 z233:=Tryz.sizeOf268
 v233:=Tryz.zeroValue268
 g17:=by kernel_rfl
 g18:=by kernel_rfl
 g19:=by kernel_rfl
 i0:=by kernel_rfl
 i2:=by kernel_rfl
 i3:=by kernel_rfl
 i4:=by kernel_rfl
 i5:=by kernel_rfl
 i9:=by kernel_rfl
 i20:=by kernel_rfl
 i37:=by kernel_rfl
 i46:=by kernel_rfl
 i51:=by kernel_rfl
 i53:=by kernel_rfl
 i171:=by kernel_rfl
 i173:=by kernel_rfl
 i212:=by kernel_rfl
 i232:=by kernel_rfl
 i233:=by kernel_rfl
 m17:=by kernel_rfl
 m18:=by kernel_rfl
 m19:=by kernel_rfl}
open Go.RowKit Go.Sort Go.Lib in
theorem Tryz.strconv_Itoa (n:Int) (h0:-9223372036854775808≤n) (h1:n≤9223372036854775807) (w:World) (htab:Lib.TabIs Tryz.prog w "internal/strconv.uint64pow10" .u64 Lib.pow10Tab):
  Calls Tryz.prog 82 #[.int .i64 n] w fun e w'=>e=.returned (.string ⟨(Lib.itoa n).toArray⟩)∧∃k os,w'=grow (w.drewN k) os:=Any.strconv_Itoa Tryz.laysM171 n h0 h1 w htab
def Tryz.laysC172_ren:Go.Shelf.Ren:=⟨fun|172=>163|244=>187|245=>188|247=>202|279=>203|280=>204|281=>205|282=>206|287=>212|316=>213|171=>82|205=>214|321=>216|322=>217|243=>129|246=>157|283=>176|284=>177|285=>178|286=>179|129=>156|317=>191|318=>192|319=>193|320=>194|337=>207|338=>208|n=>n,fun|9=>9|3=>3|75=>142|76=>143|4=>4|5=>5|167=>252|37=>138|0=>0|85=>253|2=>2|168=>255|53=>199|175=>261|46=>172|210=>265|127=>182|145=>273|143=>271|21=>21|171=>233|173=>235|212=>246|51=>196|20=>20|213=>247|232=>267|233=>268|80=>146|n=>n,fun|15=>2|16=>3|17=>1|18=>4|19=>5|n=>n⟩
theorem Tryz.laysC172:Go.Proofs.LaysC.n172 Tryz.prog Tryz.laysC172_ren:={
 mixed:=by kernel_rfl
 f129:=Tryz.func156.trans (congrArg some (by kernel_rfl))
 f171:=Tryz.func82.trans (congrArg some (by kernel_rfl))
 f172:=Tryz.func163.trans (congrArg some (by kernel_rfl))
 f205:=Tryz.func214.trans (congrArg some (by kernel_rfl))
 f243:=Tryz.func129.trans (congrArg some (by kernel_rfl))
 f244:=Tryz.func187.trans (congrArg some (by kernel_rfl))
 f245:=Tryz.func188.trans (congrArg some (by kernel_rfl))
 f246:=Tryz.func157.trans (congrArg some (by kernel_rfl))
 f247:=Tryz.func202.trans (congrArg some (by kernel_rfl))
 f279:=Tryz.func203.trans (congrArg some (by kernel_rfl))
 f280:=Tryz.func204.trans (congrArg some (by kernel_rfl))
 f281:=Tryz.func205.trans (congrArg some (by kernel_rfl))
 f282:=Tryz.func206.trans (congrArg some (by kernel_rfl))
 f283:=Tryz.func176.trans (congrArg some (by kernel_rfl))
 f284:=Tryz.func177.trans (congrArg some (by kernel_rfl))
 f285:=Tryz.func178.trans (congrArg some (by kernel_rfl))
 f286:=Tryz.func179.trans (congrArg some (by kernel_rfl))
 f287:=Tryz.func212.trans (congrArg some (by kernel_rfl))
 f316:=Tryz.func213.trans (congrArg some (by kernel_rfl))
 f317:=Tryz.func191.trans (congrArg some (by kernel_rfl))
 f318:=Tryz.func192.trans (congrArg some (by kernel_rfl))
 f319:=Tryz.func193.trans (congrArg some (by kernel_rfl))
 f320:=Tryz.func194.trans (congrArg some (by kernel_rfl))
 f321:=Tryz.func216.trans (congrArg some (by kernel_rfl))
 f322:=Tryz.func217.trans (congrArg some (by kernel_rfl))
 f337:=Tryz.func207.trans (congrArg some (by kernel_rfl))
 f338:=Tryz.func208.trans (congrArg some (by kernel_rfl))
 t0:=Tryz.underlying0
 a0:=Tryz.isAgg0
 z0:=Tryz.sizeOf0
 v0:=Tryz.zeroValue0
 t2:=Tryz.underlying2
 a2:=Tryz.isAgg2
 z2:=Tryz.sizeOf2
 v2:=Tryz.zeroValue2
 t3:=Tryz.underlying3
 a3:=Tryz.isAgg3
 z3:=Tryz.sizeOf3
 v3:=Tryz.zeroValue3
 t4:=Tryz.underlying4
 a4:=Tryz.isAgg4
 z4:=Tryz.sizeOf4
 v4:=Tryz.zeroValue4
 t5:=Tryz.underlying5
 a5:=Tryz.isAgg5
 z5:=Tryz.sizeOf5
 v5:=Tryz.zeroValue5
 t9:=Tryz.underlying9
 a9:=Tryz.isAgg9
 z9:=Tryz.sizeOf9
 v9:=Tryz.zeroValue9
 t20:=Tryz.underlying20
 a20:=Tryz.isAgg20
 z20:=Tryz.sizeOf20
 v20:=Tryz.zeroValue20
 t21:=Tryz.underlying21
 a21:=Tryz.isAgg21
 z21:=Tryz.sizeOf21
 v21:=Tryz.zeroValue21
 t37:=Tryz.underlying138
 a37:=Tryz.isAgg138
 z37:=Tryz.sizeOf138
 v37:=Tryz.zeroValue138
 t46:=Tryz.underlying172
 a46:=Tryz.isAgg172
 z46:=Tryz.sizeOf172
 v46:=Tryz.zeroValue172
 t51:=Tryz.underlying196
 a51:=Tryz.isAgg196
 z51:=Tryz.sizeOf196
 v51:=Tryz.zeroValue196
 t53:=Tryz.underlying199
 a53:=Tryz.isAgg199
 z53:=Tryz.sizeOf199
 v53:=Tryz.zeroValue199
 t75:=Tryz.underlying142
 a75:=Tryz.isAgg142
 z75:=Tryz.sizeOf142
 v75:=Tryz.zeroValue142
 t76:=Tryz.underlying143
 a76:=Tryz.isAgg143
 z76:=Tryz.sizeOf143
 v76:=Tryz.zeroValue143
 t85:=Tryz.underlying253
 a85:=Tryz.isAgg253
 z85:=Tryz.sizeOf253
 v85:=Tryz.zeroValue253
 t127:=Tryz.underlying182
 a127:=Tryz.isAgg182
 z127:=Tryz.sizeOf182
 v127:=Tryz.zeroValue182
 t143:=Tryz.underlying271
 a143:=Tryz.isAgg271
 z143:=Tryz.sizeOf271
 v143:=Tryz.zeroValue271
 t145:=Tryz.underlying273
 a145:=Tryz.isAgg273
 z145:=Tryz.sizeOf273
 v145:=Tryz.zeroValue273
 t167:=Tryz.underlying252
 a167:=Tryz.isAgg252
 z167:=Tryz.sizeOf252
 v167:=Tryz.zeroValue252
 t168:=Tryz.underlying255
 a168:=Tryz.isAgg255
 z168:=Tryz.sizeOf255
 v168:=Tryz.zeroValue255
 t171:=Tryz.underlying233
 a171:=Tryz.isAgg233
 z171:=Tryz.sizeOf233
 v171:=Tryz.zeroValue233
 t173:=Tryz.underlying235
 a173:=Tryz.isAgg235
 z173:=Tryz.sizeOf235
 v173:=Tryz.zeroValue235
 t175:=Tryz.underlying261
 a175:=Tryz.isAgg261
 z175:=Tryz.sizeOf261
 v175:=Tryz.zeroValue261
 t210:=Tryz.underlying265
 a210:=Tryz.isAgg265
 z210:=Tryz.sizeOf265
 v210:=Tryz.zeroValue265
 t212:=Tryz.underlying246
 a212:=Tryz.isAgg246
 z212:=Tryz.sizeOf246
 v212:=Tryz.zeroValue246
 t213:=Tryz.underlying247
 a213:=Tryz.isAgg247
 z213:=Tryz.sizeOf247
 t232:=Tryz.underlying267
 a232:=Tryz.isAgg267
 z232:=Tryz.sizeOf267
 v232:=Tryz.zeroValue267
 t233:=Tryz.underlying268
 a233:=Tryz.isAgg268
 z233:=Tryz.sizeOf268
 v233:=Tryz.zeroValue268
 g15:=by kernel_rfl
 g16:=by kernel_rfl
 g17:=by kernel_rfl
 g18:=by kernel_rfl
 g19:=by kernel_rfl
 t80:=Tryz.underlying146
 a80:=Tryz.isAgg146
 z80:=Tryz.sizeOf146
 v80:=Tryz.zeroValue146
 i0:=by kernel_rfl
 i2:=by kernel_rfl
 i3:=by kernel_rfl
 i4:=by kernel_rfl
 i5:=by kernel_rfl
 i9:=by kernel_rfl
 i20:=by kernel_rfl
 i21:=by kernel_rfl
 i37:=by kernel_rfl
 i46:=by kernel_rfl
 i51:=by kernel_rfl
 i53:=by kernel_rfl
 i75:=by kernel_rfl
 i76:=by kernel_rfl
 i80:=by kernel_rfl
 i85:=by kernel_rfl
 i127:=by kernel_rfl
 i143:=by kernel_rfl
 i145:=by kernel_rfl
 i167:=by kernel_rfl
 i168:=by kernel_rfl
 i171:=by kernel_rfl
 i173:=by kernel_rfl
 i175:=by kernel_rfl
 i210:=by kernel_rfl
 i212:=by kernel_rfl
 i232:=by kernel_rfl
 i233:=by kernel_rfl
 m15:=by kernel_rfl
 m16:=by kernel_rfl
 m17:=by kernel_rfl
 m18:=by kernel_rfl
 m19:=by kernel_rfl
 c0:=by kernel_rfl
 c2:=by kernel_rfl
 c3:=by kernel_rfl
 c4:=by kernel_rfl
 c5:=by kernel_rfl
 c9:=by kernel_rfl
 c20:=by kernel_rfl
 c21:=by kernel_rfl
 c37:=by kernel_rfl
 c46:=by kernel_rfl
 c51:=by kernel_rfl
 c53:=by kernel_rfl
 c75:=by kernel_rfl
 c76:=by kernel_rfl
 c80:=by kernel_rfl
 c85:=by kernel_rfl
 c127:=by kernel_rfl
 c143:=by kernel_rfl
 c145:=by kernel_rfl
 c167:=by kernel_rfl
 c168:=by kernel_rfl
 c171:=by kernel_rfl
 c173:=by kernel_rfl
 c175:=by kernel_rfl
 c210:=by kernel_rfl
 c212:=by kernel_rfl
 c213:=by kernel_rfl
 c232:=by kernel_rfl
 c233:=by kernel_rfl}
open Go.RowKit in
theorem Tryz.strconv_Atoi_ok (s:ByteArray) (hmax:s.size≤9223372036854775806) (v:Int) (h:Lib.atoiAll s.data.toList=.ok v) (w:World):
  Calls Tryz.prog 163 #[.string s] w fun e w'=>e=.returned (.tuple #[.int .i64 v,.nilIface])∧(w'=w∨∃t,w'=Lib.bytesWorld w 5 t):=Any.strconv_Atoi_ok Tryz.laysC172 s hmax v h w
open Go.RowKit in
theorem Tryz.strconv_Atoi_syntax (s:ByteArray) (hlim:s.size≤281474976710656) (hno:∀n,Lib.atoiAll s.data.toList≠.ok n) (hnr:Lib.atoiAll s.data.toList≠.range) (ev:Value) (w:World) (hv:w.cell? ⟨2,0,none⟩=some ev) (hev:ev=.nilIface∨∃te pe,ev=.iface te pe):
  Calls Tryz.prog 163 #[.string s] w fun e w'=>∃N,e=.returned (.tuple #[.int .i64 (0),.iface 255 (.pointer (some ⟨N,0,none⟩))])∧w.heap.size≤N∧w'.heap[N]?=some (.cells #[.string ⟨#[65,116,111,105]⟩,.string s,ev] 265 (0,0))∧Below w.heap.size w w':=by
 cases h:Lib.atoiAll s.data.toList with
 |ok n=>exact absurd h (hno n)
 |range=>exact absurd h hnr
 |_=>exact Any.strconv_Atoi_syntax Tryz.laysC172 s hlim h ev w hv hev
open Go.RowKit in
theorem Tryz.strconv_Atoi_range (s:ByteArray) (hlim:s.size≤281474976710656) (h:Lib.atoiAll s.data.toList=.range) (ev:Value) (w:World) (hv:w.cell? ⟨3,0,none⟩=some ev) (hev:ev=.nilIface∨∃te pe,ev=.iface te pe):
  Calls Tryz.prog 163 #[.string s] w fun e w'=>∃N,e=.returned (.tuple #[.int .i64 (Lib.atoiSat s.data.toList),.iface 255 (.pointer (some ⟨N,0,none⟩))])∧w.heap.size≤N∧w'.heap[N]?=some (.cells #[.string ⟨#[65,116,111,105]⟩,.string s,ev] 265 (0,0))∧Below w.heap.size w w':=Any.strconv_Atoi_range Tryz.laysC172 s hlim h ev w hv hev
def Tryz.lays145_ren:Go.Shelf.Ren:=⟨fun|145=>98|220=>134|219=>160|217=>181|225=>182|224=>183|267=>184|266=>196|314=>197|n=>n,fun|9=>9|4=>4|59=>147|3=>3|5=>5|46=>172|146=>197|51=>196|n=>n,fun|1=>0|n=>n⟩
theorem Tryz.lays145:Go.Proofs.Lays.n145 Tryz.prog Tryz.lays145_ren:={
 mixed:=by kernel_rfl
 f145:=Tryz.func98.trans (congrArg some (by kernel_rfl))
 f217:=Tryz.func181.trans (congrArg some (by kernel_rfl))
 f219:=Tryz.func160.trans (congrArg some (by kernel_rfl))
 f220:=Tryz.func134.trans (congrArg some (by kernel_rfl))
 f224:=Tryz.func183.trans (congrArg some (by kernel_rfl))
 f225:=Tryz.func182.trans (congrArg some (by kernel_rfl))
 f266:=Tryz.func196.trans (congrArg some (by kernel_rfl))
 f267:=Tryz.func184.trans (congrArg some (by kernel_rfl))
 f314:=Tryz.func197.trans (congrArg some (by kernel_rfl))
 t3:=Tryz.underlying3
 a3:=Tryz.isAgg3
 z3:=Tryz.sizeOf3
 v3:=Tryz.zeroValue3
 t4:=Tryz.underlying4
 a4:=Tryz.isAgg4
 z4:=Tryz.sizeOf4
 v4:=Tryz.zeroValue4
 t5:=Tryz.underlying5
 a5:=Tryz.isAgg5
 z5:=Tryz.sizeOf5
 v5:=Tryz.zeroValue5
 t9:=Tryz.underlying9
 a9:=Tryz.isAgg9
 z9:=Tryz.sizeOf9
 v9:=Tryz.zeroValue9
 t46:=Tryz.underlying172
 a46:=Tryz.isAgg172
 z46:=Tryz.sizeOf172
 v46:=Tryz.zeroValue172
 t51:=Tryz.underlying196
 a51:=Tryz.isAgg196
 z51:=Tryz.sizeOf196
 v51:=Tryz.zeroValue196
 t59:=Tryz.underlying147
 a59:=Tryz.isAgg147
 z59:=Tryz.sizeOf147
 v59:=Tryz.zeroValue147
 t146:=Tryz.underlying197
 a146:=Tryz.isAgg197
 z146:=Tryz.sizeOf197
 v146:=Tryz.zeroValue197
 g1:=by kernel_rfl}
open Go.RowKit Go.Lib in
theorem Tryz.strings_Cut (s sep:ByteArray) (m:Int) (w:World) (hs:s.size<4294967281) (hm:w.cell? ⟨0,0,none⟩=some (.int .i64 m)):
  Calls Tryz.prog 98 #[.string s,.string sep] w fun e w'=>e=.returned (.tuple #[.string ⟨(Lib.cut s.data.toList sep.data.toList).1.toArray⟩,.string ⟨(Lib.cut s.data.toList sep.data.toList).2.1.toArray⟩,.bool (Lib.cut s.data.toList sep.data.toList).2.2])∧∃n,w'=w.drewN n:=Any.strings_Cut Tryz.lays145 s sep m w hs hm
def Tryz.lays146_ren:Go.Shelf.Ren:=⟨fun|146=>161|221=>185|268=>198|138=>199|143=>200|195=>209|197=>210|218=>211|219=>160|260=>215|217=>181|225=>182|224=>183|267=>184|266=>196|314=>197|n=>n,fun|9=>9|31=>180|3=>3|4=>4|0=>0|105=>259|21=>21|5=>5|46=>172|119=>274|139=>277|138=>276|146=>197|51=>196|n=>n,fun|1=>0|3=>6|4=>7|n=>n⟩
theorem Tryz.lays146:Go.Proofs.Lays.n146 Tryz.prog Tryz.lays146_ren:={
 mixed:=by kernel_rfl
 f138:=Tryz.func199.trans (congrArg some (by kernel_rfl))
 f143:=Tryz.func200.trans (congrArg some (by kernel_rfl))
 f146:=Tryz.func161.trans (congrArg some (by kernel_rfl))
 f195:=Tryz.func209.trans (congrArg some (by kernel_rfl))
 f197:=Tryz.func210.trans (congrArg some (by kernel_rfl))
 f217:=Tryz.func181.trans (congrArg some (by kernel_rfl))
 f218:=Tryz.func211.trans (congrArg some (by kernel_rfl))
 f219:=Tryz.func160.trans (congrArg some (by kernel_rfl))
 f221:=Tryz.func185.trans (congrArg some (by kernel_rfl))
 f224:=Tryz.func183.trans (congrArg some (by kernel_rfl))
 f225:=Tryz.func182.trans (congrArg some (by kernel_rfl))
 f260:=Tryz.func215.trans (congrArg some (by kernel_rfl))
 f266:=Tryz.func196.trans (congrArg some (by kernel_rfl))
 f267:=Tryz.func184.trans (congrArg some (by kernel_rfl))
 f268:=Tryz.func198.trans (congrArg some (by kernel_rfl))
 f314:=Tryz.func197.trans (congrArg some (by kernel_rfl))
 t0:=Tryz.underlying0
 a0:=Tryz.isAgg0
 z0:=Tryz.sizeOf0
 v0:=Tryz.zeroValue0
 t3:=Tryz.underlying3
 a3:=Tryz.isAgg3
 z3:=Tryz.sizeOf3
 v3:=Tryz.zeroValue3
 t4:=Tryz.underlying4
 a4:=Tryz.isAgg4
 z4:=Tryz.sizeOf4
 v4:=Tryz.zeroValue4
 t5:=Tryz.underlying5
 a5:=Tryz.isAgg5
 z5:=Tryz.sizeOf5
 v5:=Tryz.zeroValue5
 t9:=Tryz.underlying9
 a9:=Tryz.isAgg9
 z9:=Tryz.sizeOf9
 v9:=Tryz.zeroValue9
 t21:=Tryz.underlying21
 a21:=Tryz.isAgg21
 z21:=Tryz.sizeOf21
 v21:=Tryz.zeroValue21
 t31:=Tryz.underlying180
 a31:=Tryz.isAgg180
 z31:=Tryz.sizeOf180
 v31:=Tryz.zeroValue180
 t46:=Tryz.underlying172
 a46:=Tryz.isAgg172
 z46:=Tryz.sizeOf172
 v46:=Tryz.zeroValue172
 t51:=Tryz.underlying196
 a51:=Tryz.isAgg196
 z51:=Tryz.sizeOf196
 v51:=Tryz.zeroValue196
 t105:=Tryz.underlying259
 a105:=Tryz.isAgg259
 z105:=Tryz.sizeOf259
 v105:=Tryz.zeroValue259
 t119:=Tryz.underlying274
 a119:=Tryz.isAgg274
 z119:=Tryz.sizeOf274
 t138:=Tryz.underlying276
 a138:=Tryz.isAgg276
 z138:=Tryz.sizeOf276
 v138:=Tryz.zeroValue276
 t139:=Tryz.underlying277
 a139:=Tryz.isAgg277
 z139:=Tryz.sizeOf277
 v139:=Tryz.zeroValue277
 t146:=Tryz.underlying197
 a146:=Tryz.isAgg197
 z146:=Tryz.sizeOf197
 v146:=Tryz.zeroValue197
 g1:=by kernel_rfl
 g3:=by kernel_rfl
 g4:=by kernel_rfl}
open Go.RowKit Go.Lib in
theorem Tryz.strings_Split (s sep:ByteArray) (m:Int) (w:World) (hs:s.size<4294967281) (hm:w.cell? ⟨0,0,none⟩=some (.int .i64 m)) (h1:1≤sep.size):
  Calls Tryz.prog 161 #[.string s,.string sep] w fun e w'=>
   e=.returned (.slice (some ⟨w.heap.size,0,none⟩) (Lib.countB s sep+1) (Lib.countB s sep+1))∧w'=w.alloc (.cells ((Lib.splitB sep 0 (Lib.countB s sep) s).map Value.string).toArray 9):=Any.strings_Split Tryz.lays146 (by kernel_rfl) s sep m w hs hm h1
def Tryz.lays112_ren:Go.Shelf.Ren:=⟨fun|112=>142|n=>n,fun|28=>22|3=>3|4=>4|0=>0|n=>n,fun|n=>n⟩
theorem Tryz.lays112:Go.Proofs.Lays.n112 Tryz.prog Tryz.lays112_ren:={
 mixed:=by kernel_rfl
 f112:=Tryz.func142.trans (congrArg some (by kernel_rfl))
 t0:=Tryz.underlying0
 a0:=Tryz.isAgg0
 z0:=Tryz.sizeOf0
 v0:=Tryz.zeroValue0
 t3:=Tryz.underlying3
 a3:=Tryz.isAgg3
 z3:=Tryz.sizeOf3
 v3:=Tryz.zeroValue3
 t4:=Tryz.underlying4
 a4:=Tryz.isAgg4
 z4:=Tryz.sizeOf4
 v4:=Tryz.zeroValue4
 t28:=Tryz.underlying22
 a28:=Tryz.isAgg22
 z28:=Tryz.sizeOf22
 v28:=Tryz.zeroValue22}
open Go.RowKit Go.Lib Go.Sort in
theorem Tryz.slices_Reverse_int (blk off cap:Nat) (zs:List Int) (w:World) (hH:Holds (Value.int .i64) w blk off zs.toArray) (hsz:zs.length≤9223372036854775807):
  Calls Tryz.prog 142 #[.slice (some ⟨blk,off,none⟩) zs.length cap] w fun e w'=>e=.returned (.tuple #[])∧∃n,w'=putRow (Value.int .i64) (Sort.ahead w n) blk off zs.reverse.toArray:=Any.slices_Reverse_int Tryz.lays112 blk off cap zs w hH hsz
end Go.Proofs.YtoglgeaiiipchaaGreatDoor
