/-
  What the proofs lean on: Shelf.
-/
import Derived.Shelf.Strings.Builder1
import Derived.Shelf.Strings.Trim
import Derived.Shelf.Small.Utf8
import Derived.Shelf.Small.Strs
import Derived.Shelf.Small.Wraps
import Derived.Shelf.Strings.BuilderF
import Derived.Shelf.Strings.BuilderK
import Derived.Shelf.Strconv.Atoi
import Derived.Shelf.Strconv.Itoa0
import Derived.Shelf.Strconv.Itoa1
import Derived.Shelf.LaysM
import Derived.Shelf.Strconv.Itoa2
import Derived.Shelf.Strconv.Itoa3
import Derived.Shelf.Strconv.AtoiErrFast
import Derived.Shelf.Strconv.Clone
import Derived.Shelf.Strings.Search1
import Derived.Shelf.Strings.Search2
import Derived.Shelf.Strings.Cut
import Derived.Shelf.Strings.Shaped
import Derived.Shelf.Strings.Prefix
import Derived.Shelf.Strings.Runes
import Derived.Shelf.Strings.AsciiSet
import Derived.Shelf.Unicode.DecodeSlow
import Derived.Shelf.Strings.BuilderCap
import Derived.Ground.Names2Prog
import Derived.Shelf.Slices.Clone
import Derived.Shelf.Strings.SlTrimAscii
import Derived.Test.YtgbibibmpoekiaaGreatDoorProg
set_option maxRecDepth 100000
set_option maxHeartbeats 16000000
namespace Go.Proofs
open Go.Shelf
def Tryz.lays169_ren:Go.Shelf.Ren:=⟨fun | 169=>97 | n=>n,fun | 70=>118 | 9=>9 | 0=>0 | 72=>121 | 37=>119 | 127=>141 | 3=>3 | 5=>5 | n=>n,fun | n=>n⟩
theorem Tryz.lays169:Go.Proofs.Lays.n169 Tryz.prog Tryz.lays169_ren:={
 mixed:=by kernel_rfl
 f169:=Tryz.func97.trans (congrArg some (by kernel_rfl))
 t0:=Tryz.underlying0
 a0:=Tryz.isAgg0
 z0:=Tryz.sizeOf0
 v0:=Tryz.zeroValue0
 t3:=Tryz.underlying3
 a3:=Tryz.isAgg3
 z3:=Tryz.sizeOf3
 v3:=Tryz.zeroValue3
 t9:=Tryz.underlying9
 a9:=Tryz.isAgg9
 z9:=Tryz.sizeOf9
 v9:=Tryz.zeroValue9
 t37:=Tryz.underlying119
 a37:=Tryz.isAgg119
 z37:=Tryz.sizeOf119
 v37:=Tryz.zeroValue119
 t70:=Tryz.underlying118
 a70:=Tryz.isAgg118
 z70:=Tryz.sizeOf118
 v70:=Tryz.zeroValue118
 t72:=Tryz.underlying121
 a72:=Tryz.isAgg121
 z72:=Tryz.sizeOf121
 v72:=Tryz.zeroValue121
 t127:=Tryz.underlying141
 a127:=Tryz.isAgg141
 z127:=Tryz.sizeOf141
 v127:=Tryz.zeroValue141 }
theorem Tryz.Builder_Extra_169:Builder.Extra Tryz.prog Tryz.lays169_ren:={
 sizeBuilder:=by kernel_rfl
 liesBuilder:=by kernel_rfl
 t5:=Tryz.underlying5
 a5:=Tryz.isAgg5
 z5:=Tryz.sizeOf5
 v5:=Tryz.zeroValue5
 infoByte:=by kernel_rfl
 cellsByte:=by kernel_rfl
 sizeByte:=by kernel_rfl
 neB5:=by decide }
def Tryz.lays160_ren:Go.Shelf.Ren:=⟨fun | 160=>135 | 232=>154 | 231=>153 | 227=>155 | 234=>157 | 233=>156 | 236=>159 | 235=>158 | 228=>173 | 271=>176 | 151=>175 | 197=>174 | 120=>184 | 152=>183 | 260=>182 | 137=>160 | 119=>194 | 224=>195 | 225=>196 | 217=>177 | 266=>185 | n=>n,fun | 9=>9 | 4=>4 | 3=>3 | 5=>5 | 117=>166 | 116=>165 | 0=>0 | 124=>169 | 21=>21 | 105=>182 | 46=>196 | 119=>195 | 139=>199 | 138=>198 | n=>n,fun | 3=>0 | 4=>1 | n=>n⟩
theorem Tryz.lays160:Go.Proofs.Lays.n160 Tryz.prog Tryz.lays160_ren:={
 mixed:=by kernel_rfl
 f119:=Tryz.func194.trans (congrArg some (by kernel_rfl))
 f120:=Tryz.func184.trans (congrArg some (by kernel_rfl))
 f137:=Tryz.func160.trans (congrArg some (by kernel_rfl))
 f151:=Tryz.func175.trans (congrArg some (by kernel_rfl))
 f152:=Tryz.func183.trans (congrArg some (by kernel_rfl))
 f160:=Tryz.func135.trans (congrArg some (by kernel_rfl))
 f197:=Tryz.func174.trans (congrArg some (by kernel_rfl))
 f217:=Tryz.func177.trans (congrArg some (by kernel_rfl))
 f224:=Tryz.func195.trans (congrArg some (by kernel_rfl))
 f225:=Tryz.func196.trans (congrArg some (by kernel_rfl))
 f227:=Tryz.func155.trans (congrArg some (by kernel_rfl))
 f228:=Tryz.func173.trans (congrArg some (by kernel_rfl))
 f231:=Tryz.func153.trans (congrArg some (by kernel_rfl))
 f232:=Tryz.func154.trans (congrArg some (by kernel_rfl))
 f233:=Tryz.func156.trans (congrArg some (by kernel_rfl))
 f234:=Tryz.func157.trans (congrArg some (by kernel_rfl))
 f235:=Tryz.func158.trans (congrArg some (by kernel_rfl))
 f236:=Tryz.func159.trans (congrArg some (by kernel_rfl))
 f260:=Tryz.func182.trans (congrArg some (by kernel_rfl))
 f266:=Tryz.func185.trans (congrArg some (by kernel_rfl))
 f271:=Tryz.func176.trans (congrArg some (by kernel_rfl))
 t0:=Tryz.underlying0
 a0:=Tryz.isAgg0
 z0:=Tryz.sizeOf0
 v0:=Tryz.zeroValue0
 t3:=Tryz.underlying3
 a3:=Tryz.isAgg3
 z3:=Tryz.sizeOf3
 v3:=Tryz.zeroValue3
 t4:=Tryz.underlying4
 a4:=Tryz.isAgg4
 z4:=Tryz.sizeOf4
 v4:=Tryz.zeroValue4
 t5:=Tryz.underlying5
 a5:=Tryz.isAgg5
 z5:=Tryz.sizeOf5
 v5:=Tryz.zeroValue5
 t9:=Tryz.underlying9
 a9:=Tryz.isAgg9
 z9:=Tryz.sizeOf9
 v9:=Tryz.zeroValue9
 t21:=Tryz.underlying21
 a21:=Tryz.isAgg21
 z21:=Tryz.sizeOf21
 v21:=Tryz.zeroValue21
 t46:=Tryz.underlying196
 a46:=Tryz.isAgg196
 z46:=Tryz.sizeOf196
 v46:=Tryz.zeroValue196
 t105:=Tryz.underlying182
 a105:=Tryz.isAgg182
 z105:=Tryz.sizeOf182
 v105:=Tryz.zeroValue182
 t116:=Tryz.underlying165
 a116:=Tryz.isAgg165
 z116:=Tryz.sizeOf165
 t117:=Tryz.underlying166
 a117:=Tryz.isAgg166
 z117:=Tryz.sizeOf166
 v117:=Tryz.zeroValue166
 t119:=Tryz.underlying195
 a119:=Tryz.isAgg195
 z119:=Tryz.sizeOf195
 t124:=Tryz.underlying169
 a124:=Tryz.isAgg169
 z124:=Tryz.sizeOf169
 v124:=Tryz.zeroValue169
 t138:=Tryz.underlying198
 a138:=Tryz.isAgg198
 z138:=Tryz.sizeOf198
 v138:=Tryz.zeroValue198
 t139:=Tryz.underlying199
 a139:=Tryz.isAgg199
 z139:=Tryz.sizeOf199
 v139:=Tryz.zeroValue199
 g3:=by kernel_rfl
 g4:=by kernel_rfl }
def Tryz.lays137_ren:Go.Shelf.Ren:=⟨fun | 137=>160 | 217=>177 | 266=>185 | n=>n,fun | 9=>9 | 5=>5 | 3=>3 | n=>n,fun | n=>n⟩
theorem Tryz.lays137:Go.Proofs.Lays.n137 Tryz.prog Tryz.lays137_ren:={
 mixed:=by kernel_rfl
 f137:=Tryz.func160.trans (congrArg some (by kernel_rfl))
 f217:=Tryz.func177.trans (congrArg some (by kernel_rfl))
 f266:=Tryz.func185.trans (congrArg some (by kernel_rfl))
 t3:=Tryz.underlying3
 a3:=Tryz.isAgg3
 z3:=Tryz.sizeOf3
 v3:=Tryz.zeroValue3
 t5:=Tryz.underlying5
 a5:=Tryz.isAgg5
 z5:=Tryz.sizeOf5
 v5:=Tryz.zeroValue5
 t9:=Tryz.underlying9
 a9:=Tryz.isAgg9
 z9:=Tryz.sizeOf9
 v9:=Tryz.zeroValue9 }
open Go.RowKit in
theorem Tryz.strings_IndexByte (s:ByteArray) (c:Int) (w:World) :
  Calls Tryz.prog 160 #[.string s,.int .u8 c] w fun e w'=>e=.returned (.int .i64 (Lib.indexByte s.data.toList c.toNat.toUInt8))∧w'=w:=Any.strings_IndexByte Tryz.lays137 s c w
def Tryz.lays103_ren:Go.Shelf.Ren:=⟨fun | 103=>161 | 210=>178 | 206=>186 | n=>n,fun | 9=>9 | 4=>4 | 24=>171 | 3=>3 | n=>n,fun | n=>n⟩
theorem Tryz.lays103:Go.Proofs.Lays.n103 Tryz.prog Tryz.lays103_ren:={
 mixed:=by kernel_rfl
 f103:=Tryz.func161.trans (congrArg some (by kernel_rfl))
 f206:=Tryz.func186.trans (congrArg some (by kernel_rfl))
 f210:=Tryz.func178.trans (congrArg some (by kernel_rfl))
 t3:=Tryz.underlying3
 a3:=Tryz.isAgg3
 z3:=Tryz.sizeOf3
 v3:=Tryz.zeroValue3
 t4:=Tryz.underlying4
 a4:=Tryz.isAgg4
 z4:=Tryz.sizeOf4
 v4:=Tryz.zeroValue4
 t9:=Tryz.underlying9
 a9:=Tryz.isAgg9
 z9:=Tryz.sizeOf9
 v9:=Tryz.zeroValue9
 t24:=Tryz.underlying171
 a24:=Tryz.isAgg171
 z24:=Tryz.sizeOf171
 v24:=Tryz.zeroValue171 }
open Go.RowKit in
theorem Tryz.strings_CutPrefix (s p:ByteArray) (w:World) :
  Calls Tryz.prog 161 #[.string s,.string p] w fun e w'=>e=.returned (.tuple #[.string ⟨(Lib.trimPrefix s.data.toList p.data.toList).toArray⟩,.bool (Lib.hasPrefix s.data.toList p.data.toList)])∧w'=w:=Any.strings_CutPrefix Tryz.lays103 s p w
open Go.RowKit in
theorem Tryz.Builder_String_any_f (B b:Nat) (l:List UInt8) (w:World) (h:Lib.IsBuilderF 121 5 B b (Lib.byteCells l) w) (hBw:B≤w.heap.size) :
  Calls Tryz.prog 97 #[.pointer (some ⟨b,0,none⟩)] w fun e w'=>e=.returned (.string ⟨l.toArray⟩)∧(Lib.IsBuilderF 121 5 B b (Lib.byteCells l) w'∧Below B w w'):=Any.Builder_String_any_f Tryz.lays169 Tryz.Builder_Extra_169 B b l w h hBw
def Tryz.lays172_ren:Go.Shelf.Ren:=⟨fun | 172=>180 | 244=>188 | 245=>189 | 247=>198 | 279=>199 | 280=>200 | 281=>201 | 282=>202 | 287=>209 | 316=>210 | 171=>139 | 205=>211 | 321=>214 | 322=>215 | 243=>166 | 246=>181 | 283=>190 | 284=>191 | 285=>192 | 286=>193 | 129=>204 | 317=>203 | 318=>205 | 319=>206 | 320=>207 | 337=>212 | 338=>213 | n=>n,fun | 9=>9 | 3=>3 | 75=>136 | 76=>137 | 4=>4 | 5=>5 | 167=>201 | 37=>119 | 0=>0 | 85=>202 | 2=>2 | 168=>204 | 53=>151 | 175=>214 | 46=>196 | 210=>218 | 127=>141 | 145=>224 | 143=>222 | 21=>21 | 171=>190 | 173=>193 | 212=>208 | 51=>209 | 20=>20 | 213=>210 | 232=>225 | 233=>226 | 80=>123 | n=>n,fun | 15=>4 | 16=>5 | 17=>3 | 18=>6 | 19=>7 | n=>n⟩
theorem Tryz.lays172:Go.Proofs.Lays.n172 Tryz.prog Tryz.lays172_ren:={
 mixed:=by kernel_rfl
 f129:=Tryz.func204.trans (congrArg some (by kernel_rfl))
 f171:=Tryz.func139.trans (congrArg some (by kernel_rfl))
 f172:=Tryz.func180.trans (congrArg some (by kernel_rfl))
 f205:=Tryz.func211.trans (congrArg some (by kernel_rfl))
 f243:=Tryz.func166.trans (congrArg some (by kernel_rfl))
 f244:=Tryz.func188.trans (congrArg some (by kernel_rfl))
 f245:=Tryz.func189.trans (congrArg some (by kernel_rfl))
 f246:=Tryz.func181.trans (congrArg some (by kernel_rfl))
 f247:=Tryz.func198.trans (congrArg some (by kernel_rfl))
 f279:=Tryz.func199.trans (congrArg some (by kernel_rfl))
 f280:=Tryz.func200.trans (congrArg some (by kernel_rfl))
 f281:=Tryz.func201.trans (congrArg some (by kernel_rfl))
 f282:=Tryz.func202.trans (congrArg some (by kernel_rfl))
 f283:=Tryz.func190.trans (congrArg some (by kernel_rfl))
 f284:=Tryz.func191.trans (congrArg some (by kernel_rfl))
 f285:=Tryz.func192.trans (congrArg some (by kernel_rfl))
 f286:=Tryz.func193.trans (congrArg some (by kernel_rfl))
 f287:=Tryz.func209.trans (congrArg some (by kernel_rfl))
 f316:=Tryz.func210.trans (congrArg some (by kernel_rfl))
 f317:=Tryz.func203.trans (congrArg some (by kernel_rfl))
 f318:=Tryz.func205.trans (congrArg some (by kernel_rfl))
 f319:=Tryz.func206.trans (congrArg some (by kernel_rfl))
 f320:=Tryz.func207.trans (congrArg some (by kernel_rfl))
 f321:=Tryz.func214.trans (congrArg some (by kernel_rfl))
 f322:=Tryz.func215.trans (congrArg some (by kernel_rfl))
 f337:=Tryz.func212.trans (congrArg some (by kernel_rfl))
 f338:=Tryz.func213.trans (congrArg some (by kernel_rfl))
 t0:=Tryz.underlying0
 a0:=Tryz.isAgg0
 z0:=Tryz.sizeOf0
 v0:=Tryz.zeroValue0
 t2:=Tryz.underlying2
 a2:=Tryz.isAgg2
 z2:=Tryz.sizeOf2
 v2:=Tryz.zeroValue2
 t3:=Tryz.underlying3
 a3:=Tryz.isAgg3
 z3:=Tryz.sizeOf3
 v3:=Tryz.zeroValue3
 t4:=Tryz.underlying4
 a4:=Tryz.isAgg4
 z4:=Tryz.sizeOf4
 v4:=Tryz.zeroValue4
 t5:=Tryz.underlying5
 a5:=Tryz.isAgg5
 z5:=Tryz.sizeOf5
 v5:=Tryz.zeroValue5
 t9:=Tryz.underlying9
 a9:=Tryz.isAgg9
 z9:=Tryz.sizeOf9
 v9:=Tryz.zeroValue9
 t20:=Tryz.underlying20
 a20:=Tryz.isAgg20
 z20:=Tryz.sizeOf20
 v20:=Tryz.zeroValue20
 t21:=Tryz.underlying21
 a21:=Tryz.isAgg21
 z21:=Tryz.sizeOf21
 v21:=Tryz.zeroValue21
 t37:=Tryz.underlying119
 a37:=Tryz.isAgg119
 z37:=Tryz.sizeOf119
 v37:=Tryz.zeroValue119
 t46:=Tryz.underlying196
 a46:=Tryz.isAgg196
 z46:=Tryz.sizeOf196
 v46:=Tryz.zeroValue196
 t51:=Tryz.underlying209
 a51:=Tryz.isAgg209
 z51:=Tryz.sizeOf209
 v51:=Tryz.zeroValue209
 t53:=Tryz.underlying151
 a53:=Tryz.isAgg151
 z53:=Tryz.sizeOf151
 v53:=Tryz.zeroValue151
 t75:=Tryz.underlying136
 a75:=Tryz.isAgg136
 z75:=Tryz.sizeOf136
 v75:=Tryz.zeroValue136
 t76:=Tryz.underlying137
 a76:=Tryz.isAgg137
 z76:=Tryz.sizeOf137
 v76:=Tryz.zeroValue137
 t85:=Tryz.underlying202
 a85:=Tryz.isAgg202
 z85:=Tryz.sizeOf202
 v85:=Tryz.zeroValue202
 t127:=Tryz.underlying141
 a127:=Tryz.isAgg141
 z127:=Tryz.sizeOf141
 v127:=Tryz.zeroValue141
 t143:=Tryz.underlying222
 a143:=Tryz.isAgg222
 z143:=Tryz.sizeOf222
 v143:=Tryz.zeroValue222
 t145:=Tryz.underlying224
 a145:=Tryz.isAgg224
 z145:=Tryz.sizeOf224
 v145:=Tryz.zeroValue224
 t167:=Tryz.underlying201
 a167:=Tryz.isAgg201
 z167:=Tryz.sizeOf201
 v167:=Tryz.zeroValue201
 t168:=Tryz.underlying204
 a168:=Tryz.isAgg204
 z168:=Tryz.sizeOf204
 v168:=Tryz.zeroValue204
 t171:=Tryz.underlying190
 a171:=Tryz.isAgg190
 z171:=Tryz.sizeOf190
 v171:=Tryz.zeroValue190
 t173:=Tryz.underlying193
 a173:=Tryz.isAgg193
 z173:=Tryz.sizeOf193
 v173:=Tryz.zeroValue193
 t175:=Tryz.underlying214
 a175:=Tryz.isAgg214
 z175:=Tryz.sizeOf214
 v175:=Tryz.zeroValue214
 t210:=Tryz.underlying218
 a210:=Tryz.isAgg218
 z210:=Tryz.sizeOf218
 v210:=Tryz.zeroValue218
 t212:=Tryz.underlying208
 a212:=Tryz.isAgg208
 z212:=Tryz.sizeOf208
 v212:=Tryz.zeroValue208
 t213:=Tryz.underlying210
 a213:=Tryz.isAgg210
 z213:=Tryz.sizeOf210
 t232:=Tryz.underlying225
 a232:=Tryz.isAgg225
 z232:=Tryz.sizeOf225
 v232:=Tryz.zeroValue225
 t233:=Tryz.underlying226
 a233:=Tryz.isAgg226
 z233:=Tryz.sizeOf226
 v233:=Tryz.zeroValue226
 g15:=by kernel_rfl
 g16:=by kernel_rfl
 g17:=by kernel_rfl
 g18:=by kernel_rfl
 g19:=by kernel_rfl }
open Go.RowKit in
theorem Tryz.strconv_Atoi (s:ByteArray) (n:Int) (hl:s.size≤18) (h:Lib.atoi s.data.toList=some n) (w:World) :
  Calls Tryz.prog 180 #[.string s] w fun e w'=>e=.returned (.tuple #[.int .i64 n,.nilIface])∧∃t,w'=Lib.bytesWorld w 5 t:=Any.strconv_Atoi Tryz.lays172 s n hl h w
def Tryz.laysM171_ren:Go.Shelf.Ren:=⟨fun | 171=>139 | 243=>166 | 246=>181 | 283=>190 | 284=>191 | 285=>192 | 286=>193 | 129=>204 | 317=>203 | 318=>205 | 319=>206 | 320=>207 | 337=>212 | 338=>213 | n=>n,fun | 3=>3 | 9=>9 | 2=>2 | 4=>4 | 171=>190 | 0=>0 | 53=>151 | 37=>119 | 5=>5 | 173=>193 | 212=>208 | 51=>209 | 20=>20 | 213=>210 | 46=>196 | 232=>225 | 233=>226 | n=>n,fun | 17=>3 | 18=>6 | 19=>7 | n=>n⟩
theorem Tryz.laysM171:Go.Proofs.LaysM.n171 Tryz.prog Tryz.laysM171_ren:={
 mixed:=by kernel_rfl
 f129:=Tryz.func204.trans (congrArg some (by kernel_rfl))
 f171:=Tryz.func139.trans (congrArg some (by kernel_rfl))
 f243:=Tryz.func166.trans (congrArg some (by kernel_rfl))
 f246:=Tryz.func181.trans (congrArg some (by kernel_rfl))
 f283:=Tryz.func190.trans (congrArg some (by kernel_rfl))
 f284:=Tryz.func191.trans (congrArg some (by kernel_rfl))
 f285:=Tryz.func192.trans (congrArg some (by kernel_rfl))
 f286:=Tryz.func193.trans (congrArg some (by kernel_rfl))
 f317:=Tryz.func203.trans (congrArg some (by kernel_rfl))
 f318:=Tryz.func205.trans (congrArg some (by kernel_rfl))
 f319:=Tryz.func206.trans (congrArg some (by kernel_rfl))
 f320:=Tryz.func207.trans (congrArg some (by kernel_rfl))
 f337:=Tryz.func212.trans (congrArg some (by kernel_rfl))
 f338:=Tryz.func213.trans (congrArg some (by kernel_rfl))
 t0:=Tryz.underlying0
 a0:=Tryz.isAgg0
 z0:=Tryz.sizeOf0
 v0:=Tryz.zeroValue0
 t2:=Tryz.underlying2
 a2:=Tryz.isAgg2
 z2:=Tryz.sizeOf2
 v2:=Tryz.zeroValue2
 t3:=Tryz.underlying3
 a3:=Tryz.isAgg3
 z3:=Tryz.sizeOf3
 v3:=Tryz.zeroValue3
 t4:=Tryz.underlying4
 a4:=Tryz.isAgg4
 z4:=Tryz.sizeOf4
 v4:=Tryz.zeroValue4
 t5:=Tryz.underlying5
 a5:=Tryz.isAgg5
 z5:=Tryz.sizeOf5
 v5:=Tryz.zeroValue5
 t9:=Tryz.underlying9
 a9:=Tryz.isAgg9
 z9:=Tryz.sizeOf9
 v9:=Tryz.zeroValue9
 t20:=Tryz.underlying20
 a20:=Tryz.isAgg20
 z20:=Tryz.sizeOf20
 v20:=Tryz.zeroValue20
 t37:=Tryz.underlying119
 a37:=Tryz.isAgg119
 z37:=Tryz.sizeOf119
 v37:=Tryz.zeroValue119
 t46:=Tryz.underlying196
 a46:=Tryz.isAgg196
 z46:=Tryz.sizeOf196
 v46:=Tryz.zeroValue196
 t51:=Tryz.underlying209
 a51:=Tryz.isAgg209
 z51:=Tryz.sizeOf209
 v51:=Tryz.zeroValue209
 t53:=Tryz.underlying151
 a53:=Tryz.isAgg151
 z53:=Tryz.sizeOf151
 v53:=Tryz.zeroValue151
 t171:=Tryz.underlying190
 a171:=Tryz.isAgg190
 z171:=Tryz.sizeOf190
 v171:=Tryz.zeroValue190
 t173:=Tryz.underlying193
 a173:=Tryz.isAgg193
 z173:=Tryz.sizeOf193
 v173:=Tryz.zeroValue193
 t212:=Tryz.underlying208
 a212:=Tryz.isAgg208
 z212:=Tryz.sizeOf208
 v212:=Tryz.zeroValue208
 t213:=Tryz.underlying210
 a213:=Tryz.isAgg210
 z213:=Tryz.sizeOf210
 t232:=Tryz.underlying225
 a232:=Tryz.isAgg225
 z232:=Tryz.sizeOf225
 v232:=Tryz.zeroValue225
 t233:=Tryz.underlying226
 a233:=Tryz.isAgg226
 z233:=Tryz.sizeOf226
 v233:=Tryz.zeroValue226
 g17:=by kernel_rfl
 g18:=by kernel_rfl
 g19:=by kernel_rfl
 i0:=by kernel_rfl
 i2:=by kernel_rfl
 i3:=by kernel_rfl
 i4:=by kernel_rfl
 i5:=by kernel_rfl
 i9:=by kernel_rfl
 i20:=by kernel_rfl
 i37:=by kernel_rfl
 i46:=by kernel_rfl
 i51:=by kernel_rfl
 i53:=by kernel_rfl
 i171:=by kernel_rfl
 i173:=by kernel_rfl
 i212:=by kernel_rfl
 i232:=by kernel_rfl
 i233:=by kernel_rfl
 m17:=by kernel_rfl
 m18:=by kernel_rfl
 m19:=by kernel_rfl }
open Go.RowKit Go.Sort Go.Lib in
theorem Tryz.strconv_Itoa (n : Int) (h0 : -9223372036854775808 ≤ n) (h1 : n ≤ 9223372036854775807) (w : World) (htab : Lib.TabIs Tryz.prog w "internal/strconv.uint64pow10" .u64 Lib.pow10Tab) :
  Calls Tryz.prog 139 #[.int .i64 n] w fun e w'=>e=.returned (.string ⟨(Lib.itoa n).toArray⟩)∧∃k os,w'=grow (w.drewN k) os:=Any.strconv_Itoa Tryz.laysM171 n h0 h1 w htab
def Tryz.lays219_ren:Go.Shelf.Ren:=⟨fun | 219=>187 | 217=>177 | 225=>196 | 224=>195 | 267=>197 | 266=>185 | 314=>208 | n=>n,fun | 9=>9 | 3=>3 | 4=>4 | 5=>5 | 46=>196 | 146=>212 | 51=>209 | n=>n,fun | 1=>2 | n=>n⟩
theorem Tryz.lays219:Go.Proofs.Lays.n219 Tryz.prog Tryz.lays219_ren:={
 mixed:=by kernel_rfl
 f217:=Tryz.func177.trans (congrArg some (by kernel_rfl))
 f219:=Tryz.func187.trans (congrArg some (by kernel_rfl))
 f224:=Tryz.func195.trans (congrArg some (by kernel_rfl))
 f225:=Tryz.func196.trans (congrArg some (by kernel_rfl))
 f266:=Tryz.func185.trans (congrArg some (by kernel_rfl))
 f267:=Tryz.func197.trans (congrArg some (by kernel_rfl))
 f314:=Tryz.func208.trans (congrArg some (by kernel_rfl))
 t3:=Tryz.underlying3
 a3:=Tryz.isAgg3
 z3:=Tryz.sizeOf3
 v3:=Tryz.zeroValue3
 t4:=Tryz.underlying4
 a4:=Tryz.isAgg4
 z4:=Tryz.sizeOf4
 v4:=Tryz.zeroValue4
 t5:=Tryz.underlying5
 a5:=Tryz.isAgg5
 z5:=Tryz.sizeOf5
 v5:=Tryz.zeroValue5
 t9:=Tryz.underlying9
 a9:=Tryz.isAgg9
 z9:=Tryz.sizeOf9
 v9:=Tryz.zeroValue9
 t46:=Tryz.underlying196
 a46:=Tryz.isAgg196
 z46:=Tryz.sizeOf196
 v46:=Tryz.zeroValue196
 t51:=Tryz.underlying209
 a51:=Tryz.isAgg209
 z51:=Tryz.sizeOf209
 v51:=Tryz.zeroValue209
 t146:=Tryz.underlying212
 a146:=Tryz.isAgg212
 z146:=Tryz.sizeOf212
 v146:=Tryz.zeroValue212
 g1:=by kernel_rfl }
open Go.RowKit Go.Lib in
theorem Tryz.stringslite_Index_one (s:ByteArray) (c:UInt8) (w:World) :
  Calls Tryz.prog 187 #[.string s,.string ⟨#[c]⟩] w fun e w'=>e=.returned (.int .i64 (Lib.indexByte s.data.toList c))∧w'=w:=Any.stringslite_Index_one Tryz.lays219 s c w
end Go.Proofs
namespace Go.Proofs.YtgbibibmpoekiaaGreatDoor

end Go.Proofs.YtgbibibmpoekiaaGreatDoor
