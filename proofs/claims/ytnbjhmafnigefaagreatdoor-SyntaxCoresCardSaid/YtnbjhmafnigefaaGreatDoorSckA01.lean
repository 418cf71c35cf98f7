/- .. -/
import Derived.Lib.ItoaNum
import Derived.Lib.Atoi
import Derived.Lib.AtoiAll
import Derived.Lib.SlTrimSet
import Derived.Shelf.Strings.Builder1
import Derived.Shelf.Strings.Trim
import Derived.Shelf.Small.Utf8
import Derived.Shelf.Small.Strs
import Derived.Shelf.Small.Wraps
import Derived.Shelf.Strings.BuilderF
import Derived.Shelf.Strings.BuilderK
import Derived.Shelf.Strconv.Atoi
import Derived.Shelf.Strconv.Itoa0
import Derived.Shelf.Strconv.Itoa1
import Derived.Shelf.LaysM
import Derived.Shelf.Strconv.Itoa2
import Derived.Shelf.Strconv.Itoa3
import Derived.Shelf.Strconv.AtoiErrFast
import Derived.Shelf.Strconv.Clone
import Derived.Shelf.Strings.Search1
import Derived.Shelf.Strings.Search2
import Derived.Shelf.Strings.Search3
import Derived.Shelf.Strings.Cut
import Derived.Shelf.Strings.Shaped
import Derived.Shelf.Strings.Prefix
import Derived.Shelf.Strings.Runes
import Derived.Shelf.Strings.AsciiSet
import Derived.Shelf.Unicode.DecodeSlow
import Derived.Shelf.Strings.BuilderCap
import Derived.Shelf.Strings.SlTrimAscii
import Derived.Test.YtnbjhmafnigefaaGreatDoorProg
import Derived.WalkKit
import Derived.ProofKit
import Derived.BigQuiet
import Derived.Deep.QuietTactic
import Derived.Lib.Hide
import Derived.IntWalk
import Derived.Lib.LaidTab
import Derived.Lib.AppendIntMem
import Derived.Lib.ItoaLen
import Derived.Below
theorem Go.Proofs.YtnbjhmafnigefaaGreatDoor.zh {p : Prop} (h : p) : Go.RowKit.Hid p := h
open Go.Proofs.Tryz
set_option maxRecDepth 100000
set_option maxHeartbeats 16000000
namespace Go.Proofs
open Go.Shelf
def Tryz.lays169_ren:Go.Shelf.Ren:=⟨fun | 169=>39 | n=>n,fun | 70=>57 | 9=>9 | 0=>0 | 72=>60 | 37=>58 | 127=>86 | 3=>3 | 5=>5 | n=>n,fun | n=>n⟩
theorem Tryz.lays169:Go.Proofs.Lays.n169 prog lays169_ren:={
 mixed:=by kernel_rfl
 f169:=func39.trans (congrArg some (by kernel_rfl))
 t0:=underlying0
 a0:=isAgg0
 z0:=sizeOf0
 v0:=zeroValue0
 t3:=underlying3
 a3:=isAgg3
 z3:=sizeOf3
 v3:=zeroValue3
 t9:=underlying9
 a9:=isAgg9
 z9:=sizeOf9
 v9:=zeroValue9
 t37:=underlying58
 a37:=isAgg58
 z37:=sizeOf58
 v37:=zeroValue58
 t70:=underlying57
 a70:=isAgg57
 z70:=sizeOf57
 v70:=zeroValue57
 t72:=underlying60
 a72:=isAgg60
 z72:=sizeOf60
 v72:=zeroValue60
 t127:=underlying86
 a127:=isAgg86
 z127:=sizeOf86
 v127:=zeroValue86 }
theorem Tryz.Builder_Extra_169:Builder.Extra prog lays169_ren:={
 sizeBuilder:=by kernel_rfl
 liesBuilder:=by kernel_rfl
 t5:=underlying5
 a5:=isAgg5
 z5:=sizeOf5
 v5:=zeroValue5
 infoByte:=by kernel_rfl
 cellsByte:=by kernel_rfl
 sizeByte:=by kernel_rfl
 neB5:=by decide }
def Tryz.lays160_ren:Go.Shelf.Ren:=⟨fun | 160=>102 | 232=>129 | 231=>128 | 227=>130 | 234=>132 | 233=>131 | 236=>134 | 235=>133 | 228=>154 | 271=>157 | 151=>156 | 197=>155 | 120=>170 | 152=>169 | 260=>168 | 137=>135 | 119=>179 | 224=>142 | 225=>141 | 217=>140 | 266=>161 | n=>n,fun | 9=>9 | 4=>4 | 3=>3 | 5=>5 | 117=>119 | 116=>118 | 0=>0 | 124=>122 | 21=>21 | 105=>134 | 46=>131 | 119=>153 | 139=>156 | 138=>155 | n=>n,fun | 3=>2 | 4=>3 | n=>n⟩
theorem Tryz.lays160:Go.Proofs.Lays.n160 prog lays160_ren:={
 mixed:=by kernel_rfl
 f119:=func179.trans (congrArg some (by kernel_rfl))
 f120:=func170.trans (congrArg some (by kernel_rfl))
 f137:=func135.trans (congrArg some (by kernel_rfl))
 f151:=func156.trans (congrArg some (by kernel_rfl))
 f152:=func169.trans (congrArg some (by kernel_rfl))
 f160:=func102.trans (congrArg some (by kernel_rfl))
 f197:=func155.trans (congrArg some (by kernel_rfl))
 f217:=func140.trans (congrArg some (by kernel_rfl))
 f224:=func142.trans (congrArg some (by kernel_rfl))
 f225:=func141.trans (congrArg some (by kernel_rfl))
 f227:=func130.trans (congrArg some (by kernel_rfl))
 f228:=func154.trans (congrArg some (by kernel_rfl))
 f231:=func128.trans (congrArg some (by kernel_rfl))
 f232:=func129.trans (congrArg some (by kernel_rfl))
 f233:=func131.trans (congrArg some (by kernel_rfl))
 f234:=func132.trans (congrArg some (by kernel_rfl))
 f235:=func133.trans (congrArg some (by kernel_rfl))
 f236:=func134.trans (congrArg some (by kernel_rfl))
 f260:=func168.trans (congrArg some (by kernel_rfl))
 f266:=func161.trans (congrArg some (by kernel_rfl))
 f271:=func157.trans (congrArg some (by kernel_rfl))
 t0:=underlying0
 a0:=isAgg0
 z0:=sizeOf0
 v0:=zeroValue0
 t3:=underlying3
 a3:=isAgg3
 z3:=sizeOf3
 v3:=zeroValue3
 t4:=underlying4
 a4:=isAgg4
 z4:=sizeOf4
 v4:=zeroValue4
 t5:=underlying5
 a5:=isAgg5
 z5:=sizeOf5
 v5:=zeroValue5
 t9:=underlying9
 a9:=isAgg9
 z9:=sizeOf9
 v9:=zeroValue9
 t21:=underlying21
 a21:=isAgg21
 z21:=sizeOf21
 v21:=zeroValue21
 t46:=underlying131
 a46:=isAgg131
 z46:=sizeOf131
 v46:=zeroValue131
 t105:=underlying134
 a105:=isAgg134
 z105:=sizeOf134
 v105:=zeroValue134
 t116:=underlying118
 a116:=isAgg118
 z116:=sizeOf118
 t117:=underlying119
 a117:=isAgg119
 z117:=sizeOf119
 v117:=zeroValue119
 t119:=underlying153
 a119:=isAgg153
 z119:=sizeOf153
 t124:=underlying122
 a124:=isAgg122
 z124:=sizeOf122
 v124:=zeroValue122
 t138:=underlying155
 a138:=isAgg155
 z138:=sizeOf155
 v138:=zeroValue155
 t139:=underlying156
 a139:=isAgg156
 z139:=sizeOf156
 v139:=zeroValue156
 g3:=by kernel_rfl
 g4:=by kernel_rfl }
def Tryz.lays137_ren:Go.Shelf.Ren:=⟨fun | 137=>135 | 217=>140 | 266=>161 | n=>n,fun | 9=>9 | 5=>5 | 3=>3 | n=>n,fun | n=>n⟩
theorem Tryz.lays137:Go.Proofs.Lays.n137 prog lays137_ren:={
 mixed:=by kernel_rfl
 f137:=func135.trans (congrArg some (by kernel_rfl))
 f217:=func140.trans (congrArg some (by kernel_rfl))
 f266:=func161.trans (congrArg some (by kernel_rfl))
 t3:=underlying3
 a3:=isAgg3
 z3:=sizeOf3
 v3:=zeroValue3
 t5:=underlying5
 a5:=isAgg5
 z5:=sizeOf5
 v5:=zeroValue5
 t9:=underlying9
 a9:=isAgg9
 z9:=sizeOf9
 v9:=zeroValue9 }
open Go.RowKit in
theorem Tryz.strings_IndexByte (s:ByteArray) (c:Int) (w:World) :
  Calls prog 135 #[.string s,.int .u8 c] w fun e w'=>e=.returned (.int .i64 (Lib.indexByte s.data.toList c.toNat.toUInt8))∧w'=w:=Any.strings_IndexByte lays137 s c w
def Tryz.lays103_ren:Go.Shelf.Ren:=⟨fun | 103=>136 | 210=>158 | 206=>171 | n=>n,fun | 9=>9 | 4=>4 | 24=>124 | 3=>3 | n=>n,fun | n=>n⟩
theorem Tryz.lays103:Go.Proofs.Lays.n103 prog lays103_ren:={
 mixed:=by kernel_rfl
 f103:=func136.trans (congrArg some (by kernel_rfl))
 f206:=func171.trans (congrArg some (by kernel_rfl))
 f210:=func158.trans (congrArg some (by kernel_rfl))
 t3:=underlying3
 a3:=isAgg3
 z3:=sizeOf3
 v3:=zeroValue3
 t4:=underlying4
 a4:=isAgg4
 z4:=sizeOf4
 v4:=zeroValue4
 t9:=underlying9
 a9:=isAgg9
 z9:=sizeOf9
 v9:=zeroValue9
 t24:=underlying124
 a24:=isAgg124
 z24:=sizeOf124
 v24:=zeroValue124 }
open Go.RowKit in
theorem Tryz.strings_CutPrefix (s p:ByteArray) (w:World) :
  Calls prog 136 #[.string s,.string p] w fun e w'=>e=.returned (.tuple #[.string ⟨(Lib.trimPrefix s.data.toList p.data.toList).toArray⟩,.bool (Lib.hasPrefix s.data.toList p.data.toList)])∧w'=w:=Any.strings_CutPrefix lays103 s p w
open Go.RowKit in
theorem Tryz.Builder_String_any_f (B b:Nat) (l:List UInt8) (w:World) (h:Lib.IsBuilderF 60 5 B b (Lib.byteCells l) w) (hBw:B<=w.heap.size) :
  Calls prog 39 #[.pointer (some ⟨b,0,none⟩)] w fun e w'=>e=.returned (.string ⟨l.toArray⟩)∧(Lib.IsBuilderF 60 5 B b (Lib.byteCells l) w'∧Below B w w'):=Any.Builder_String_any_f lays169 Tryz.Builder_Extra_169 B b l w h hBw
def Tryz.lays172_ren:Go.Shelf.Ren:=⟨fun | 172=>160 | 244=>172 | 245=>173 | 247=>180 | 279=>181 | 280=>182 | 281=>183 | 282=>184 | 287=>187 | 316=>188 | 171=>98 | 205=>189 | 321=>190 | 322=>191 | 243=>127 | 246=>153 | 283=>164 | 284=>165 | 285=>166 | 286=>167 | 129=>175 | 317=>174 | 318=>176 | 319=>177 | 320=>178 | 337=>185 | 338=>186 | n=>n,fun | 9=>9 | 3=>3 | 75=>81 | 76=>82 | 4=>4 | 5=>5 | 167=>158 | 37=>58 | 0=>0 | 85=>159 | 2=>2 | 168=>161 | 53=>100 | 175=>165 | 46=>131 | 210=>168 | 127=>86 | 145=>175 | 143=>173 | 21=>21 | 171=>141 | 173=>144 | 212=>149 | 51=>137 | 20=>20 | 213=>150 | 232=>170 | 233=>171 | 80=>62 | n=>n,fun | 15=>4 | 16=>5 | 17=>1 | 18=>6 | 19=>7 | n=>n⟩
theorem Tryz.lays172:Go.Proofs.Lays.n172 prog lays172_ren:={
 mixed:=by kernel_rfl
 f129:=func175.trans (congrArg some (by kernel_rfl))
 f171:=func98.trans (congrArg some (by kernel_rfl))
 f172:=func160.trans (congrArg some (by kernel_rfl))
 f205:=func189.trans (congrArg some (by kernel_rfl))
 f243:=func127.trans (congrArg some (by kernel_rfl))
 f244:=func172.trans (congrArg some (by kernel_rfl))
 f245:=func173.trans (congrArg some (by kernel_rfl))
 f246:=func153.trans (congrArg some (by kernel_rfl))
 f247:=func180.trans (congrArg some (by kernel_rfl))
 f279:=func181.trans (congrArg some (by kernel_rfl))
 f280:=func182.trans (congrArg some (by kernel_rfl))
 f281:=func183.trans (congrArg some (by kernel_rfl))
 f282:=func184.trans (congrArg some (by kernel_rfl))
 f283:=func164.trans (congrArg some (by kernel_rfl))
 f284:=func165.trans (congrArg some (by kernel_rfl))
 f285:=func166.trans (congrArg some (by kernel_rfl))
 f286:=func167.trans (congrArg some (by kernel_rfl))
 f287:=func187.trans (congrArg some (by kernel_rfl))
 f316:=func188.trans (congrArg some (by kernel_rfl))
 f317:=func174.trans (congrArg some (by kernel_rfl))
 f318:=func176.trans (congrArg some (by kernel_rfl))
 f319:=func177.trans (congrArg some (by kernel_rfl))
 f320:=func178.trans (congrArg some (by kernel_rfl))
 f321:=func190.trans (congrArg some (by kernel_rfl))
 f322:=func191.trans (congrArg some (by kernel_rfl))
 f337:=func185.trans (congrArg some (by kernel_rfl))
 f338:=func186.trans (congrArg some (by kernel_rfl))
 t0:=underlying0
 a0:=isAgg0
 z0:=sizeOf0
 v0:=zeroValue0
 t2:=underlying2
 a2:=isAgg2
 z2:=sizeOf2
 v2:=zeroValue2
 t3:=underlying3
 a3:=isAgg3
 z3:=sizeOf3
 v3:=zeroValue3
 t4:=underlying4
 a4:=isAgg4
 z4:=sizeOf4
 v4:=zeroValue4
 t5:=underlying5
 a5:=isAgg5
 z5:=sizeOf5
 v5:=zeroValue5
 t9:=underlying9
 a9:=isAgg9
 z9:=sizeOf9
 v9:=zeroValue9
 t20:=underlying20
 a20:=isAgg20
 z20:=sizeOf20
 v20:=zeroValue20
 t21:=underlying21
 a21:=isAgg21
 z21:=sizeOf21
 v21:=zeroValue21
 t37:=underlying58
 a37:=isAgg58
 z37:=sizeOf58
 v37:=zeroValue58
 t46:=underlying131
 a46:=isAgg131
 z46:=sizeOf131
 v46:=zeroValue131
 t51:=underlying137
 a51:=isAgg137
 z51:=sizeOf137
 v51:=zeroValue137
 t53:=underlying100
 a53:=isAgg100
 z53:=sizeOf100
 v53:=zeroValue100
 t75:=underlying81
 a75:=isAgg81
 z75:=sizeOf81
 v75:=zeroValue81
 t76:=underlying82
 a76:=isAgg82
 z76:=sizeOf82
 v76:=zeroValue82
 t85:=underlying159
 a85:=isAgg159
 z85:=sizeOf159
 v85:=zeroValue159
 t127:=underlying86
 a127:=isAgg86
 z127:=sizeOf86
 v127:=zeroValue86
 t143:=underlying173
 a143:=isAgg173
 z143:=sizeOf173
 v143:=zeroValue173
 t145:=underlying175
 a145:=isAgg175
 z145:=sizeOf175
 v145:=zeroValue175
 t167:=underlying158
 a167:=isAgg158
 z167:=sizeOf158
 v167:=zeroValue158
 t168:=underlying161
 a168:=isAgg161
 z168:=sizeOf161
 v168:=zeroValue161
 t171:=underlying141
 a171:=isAgg141
 z171:=sizeOf141
 v171:=zeroValue141
 t173:=underlying144
 a173:=isAgg144
 z173:=sizeOf144
 v173:=zeroValue144
 t175:=underlying165
 a175:=isAgg165
 z175:=sizeOf165
 v175:=zeroValue165
 t210:=underlying168
 a210:=isAgg168
 z210:=sizeOf168
 v210:=zeroValue168
 t212:=underlying149
 a212:=isAgg149
 z212:=sizeOf149
 v212:=zeroValue149
 t213:=underlying150
 a213:=isAgg150
 z213:=sizeOf150
 t232:=underlying170
 a232:=isAgg170
 z232:=sizeOf170
 v232:=zeroValue170
 t233:=underlying171
 a233:=isAgg171
 z233:=sizeOf171
 v233:=zeroValue171
 g15:=by kernel_rfl
 g16:=by kernel_rfl
 g17:=by kernel_rfl
 g18:=by kernel_rfl
 g19:=by kernel_rfl }
open Go.RowKit in
theorem Tryz.strconv_Atoi (s:ByteArray) (n:Int) (hl:s.size<=18) (h:Lib.atoi s.data.toList=some n) (w:World) :
  Calls prog 160 #[.string s] w fun e w'=>e=.returned (.tuple #[.int .i64 n,.nilIface])∧∃t,w'=Lib.bytesWorld w 5 t:=Any.strconv_Atoi lays172 s n hl h w
def Tryz.laysM171_ren:Go.Shelf.Ren:=⟨fun | 171=>98 | 243=>127 | 246=>153 | 283=>164 | 284=>165 | 285=>166 | 286=>167 | 129=>175 | 317=>174 | 318=>176 | 319=>177 | 320=>178 | 337=>185 | 338=>186 | n=>n,fun | 3=>3 | 9=>9 | 2=>2 | 4=>4 | 171=>141 | 0=>0 | 53=>100 | 37=>58 | 5=>5 | 173=>144 | 212=>149 | 51=>137 | 20=>20 | 213=>150 | 46=>131 | 232=>170 | 233=>171 | n=>n,fun | 17=>1 | 18=>6 | 19=>7 | n=>n⟩
theorem Tryz.laysM171:Go.Proofs.LaysM.n171 prog laysM171_ren:={
 mixed:=by kernel_rfl
 f129:=func175.trans (congrArg some (by kernel_rfl))
 f171:=func98.trans (congrArg some (by kernel_rfl))
 f243:=func127.trans (congrArg some (by kernel_rfl))
 f246:=func153.trans (congrArg some (by kernel_rfl))
 f283:=func164.trans (congrArg some (by kernel_rfl))
 f284:=func165.trans (congrArg some (by kernel_rfl))
 f285:=func166.trans (congrArg some (by kernel_rfl))
 f286:=func167.trans (congrArg some (by kernel_rfl))
 f317:=func174.trans (congrArg some (by kernel_rfl))
 f318:=func176.trans (congrArg some (by kernel_rfl))
 f319:=func177.trans (congrArg some (by kernel_rfl))
 f320:=func178.trans (congrArg some (by kernel_rfl))
 f337:=func185.trans (congrArg some (by kernel_rfl))
 f338:=func186.trans (congrArg some (by kernel_rfl))
 t0:=underlying0
 a0:=isAgg0
 z0:=sizeOf0
 v0:=zeroValue0
 t2:=underlying2
 a2:=isAgg2
 z2:=sizeOf2
 v2:=zeroValue2
 t3:=underlying3
 a3:=isAgg3
 z3:=sizeOf3
 v3:=zeroValue3
 t4:=underlying4
 a4:=isAgg4
 z4:=sizeOf4
 v4:=zeroValue4
 t5:=underlying5
 a5:=isAgg5
 z5:=sizeOf5
 v5:=zeroValue5
 t9:=underlying9
 a9:=isAgg9
 z9:=sizeOf9
 v9:=zeroValue9
 t20:=underlying20
 a20:=isAgg20
 z20:=sizeOf20
 v20:=zeroValue20
 t37:=underlying58
 a37:=isAgg58
 z37:=sizeOf58
 v37:=zeroValue58
 t46:=underlying131
 a46:=isAgg131
 z46:=sizeOf131
 v46:=zeroValue131
 t51:=underlying137
 a51:=isAgg137
 z51:=sizeOf137
 v51:=zeroValue137
 t53:=underlying100
 a53:=isAgg100
 z53:=sizeOf100
 v53:=zeroValue100
 t171:=underlying141
 a171:=isAgg141
 z171:=sizeOf141
 v171:=zeroValue141
 t173:=underlying144
 a173:=isAgg144
 z173:=sizeOf144
 v173:=zeroValue144
 t212:=underlying149
 a212:=isAgg149
 z212:=sizeOf149
 v212:=zeroValue149
 t213:=underlying150
 a213:=isAgg150
 z213:=sizeOf150
 t232:=underlying170
 a232:=isAgg170
 z232:=sizeOf170
 v232:=zeroValue170
 t233:=underlying171
 a233:=isAgg171
 z233:=sizeOf171
 v233:=zeroValue171
 g17:=by kernel_rfl
 g18:=by kernel_rfl
 g19:=by kernel_rfl
 i0:=by kernel_rfl
 i2:=by kernel_rfl
 i3:=by kernel_rfl
 i4:=by kernel_rfl
 i5:=by kernel_rfl
 i9:=by kernel_rfl
 i20:=by kernel_rfl
 i37:=by kernel_rfl
 i46:=by kernel_rfl
 i51:=by kernel_rfl
 i53:=by kernel_rfl
 i171:=by kernel_rfl
 i173:=by kernel_rfl
 i212:=by kernel_rfl
 i232:=by kernel_rfl
 i233:=by kernel_rfl
 m17:=by kernel_rfl
 m18:=by kernel_rfl
 m19:=by kernel_rfl }
open Go.RowKit Go.Sort Go.Lib in
theorem Tryz.strconv_Itoa (n : Int) (h0 : -9223372036854775808 <= n) (h1 : n <= 9223372036854775807) (w : World) (htab : Lib.TabIs prog w "internal/strconv.uint64pow10" .u64 Lib.pow10Tab) :
  Calls prog 98 #[.int .i64 n] w fun e w'=>e=.returned (.string ⟨(Lib.itoa n).toArray⟩)∧∃k os,w'=grow (w.drewN k) os:=Any.strconv_Itoa laysM171 n h0 h1 w htab
def Tryz.lays219_ren:Go.Shelf.Ren:=⟨fun | 219=>105 | 217=>140 | 225=>141 | 224=>142 | 267=>143 | 266=>161 | 314=>162 | n=>n,fun | 9=>9 | 3=>3 | 4=>4 | 5=>5 | 46=>131 | 146=>138 | 51=>137 | n=>n,fun | 1=>0 | n=>n⟩
theorem Tryz.lays219:Go.Proofs.Lays.n219 prog lays219_ren:={
 mixed:=by kernel_rfl
 f217:=func140.trans (congrArg some (by kernel_rfl))
 f219:=func105.trans (congrArg some (by kernel_rfl))
 f224:=func142.trans (congrArg some (by kernel_rfl))
 f225:=func141.trans (congrArg some (by kernel_rfl))
 f266:=func161.trans (congrArg some (by kernel_rfl))
 f267:=func143.trans (congrArg some (by kernel_rfl))
 f314:=func162.trans (congrArg some (by kernel_rfl))
 t3:=underlying3
 a3:=isAgg3
 z3:=sizeOf3
 v3:=zeroValue3
 t4:=underlying4
 a4:=isAgg4
 z4:=sizeOf4
 v4:=zeroValue4
 t5:=underlying5
 a5:=isAgg5
 z5:=sizeOf5
 v5:=zeroValue5
 t9:=underlying9
 a9:=isAgg9
 z9:=sizeOf9
 v9:=zeroValue9
 t46:=underlying131
 a46:=isAgg131
 z46:=sizeOf131
 v46:=zeroValue131
 t51:=underlying137
 a51:=isAgg137
 z51:=sizeOf137
 v51:=zeroValue137
 t146:=underlying138
 a146:=isAgg138
 z146:=sizeOf138
 v146:=zeroValue138
 g1:=by kernel_rfl }
open Go.RowKit Go.Lib in
theorem Tryz.stringslite_Index_one (s:ByteArray) (c:UInt8) (w:World) :
  Calls prog 105 #[.string s,.string ⟨#[c]⟩] w fun e w'=>e=.returned (.int .i64 (Lib.indexByte s.data.toList c))∧w'=w:=Any.stringslite_Index_one lays219 s c w
end Go.Proofs
namespace Go.Proofs.YtnbjhmafnigefaaGreatDoor
section
open Go Go.RowKit
theorem qzL{n:Nat}:n<=n:=Nat.le_refl n
theorem qzM{a b c:Nat}(h:a<b)(k:b<=c):a<c:=Nat.lt_of_lt_of_le h k
theorem qzN{A:Type}{a:A}{l:List A}:(a::l).length=l.length+1:=List.length_cons
theorem qzO{A:Type}:([]:List A).length=0:=List.length_nil
theorem qzB{h:Nat}{w:Go.World}:Below h w w:=Below.refl h w
end
section
namespace Num
def mk (n d:Int):Int × Int × Int:=
 if d=0 then (0,0,4) else
 if 2147483647<n.natAbs / Int.gcd n d∨2147483647<d.natAbs / Int.gcd n d then (0,0,3) else
 if n<0↔d<0 then (((n.natAbs / Int.gcd n d:Nat):Int),((d.natAbs / Int.gcd n d:Nat):Int),0)
 else (-((n.natAbs / Int.gcd n d:Nat):Int),((d.natAbs / Int.gcd n d:Nat):Int),0)
def right (n d:Int):Bool:=
 decide (1<=d)&&(decide (d<=2147483647)&&(decide (-2147483647<=n)&&(decide (n<=2147483647)&&(Int.gcd n d==1))))
theorem gcd_ne {n d:Int} (hd:d≠0):Int.gcd n d≠0:=by
 intro h
 rw[Int.gcd_eq_zero_iff] at h
 exact hd h.2
end Num
end
section
namespace Num
end Num
end
section
namespace Num
open Go
def text (n d:Int):List UInt8:=
 if right n d then Lib.itoa n++(if d=1 then [] else 47::Lib.itoa d) else []
def nat? (l:List UInt8):Option Nat:=if l.length<=10 then Lib.decNat l else none
def noSlash (b:UInt8):Bool:=b != 47
def lower (l:List UInt8):List UInt8:=match l.dropWhile noSlash with | []=>[49] | _::t=>t
def parseU (neg:Bool) (l:List UInt8):Int × Int × Bool:=
 match nat? (l.takeWhile noSlash),nat? (lower l) with
 | some n,some d=>((mk (if neg then -(n:Int) else n) d).1,(mk (if neg then -(n:Int) else n) d).2.1,decide ((mk (if neg then -(n:Int) else n) d).2.2=0))
 | _,_=>(0,0,false)
def parse (l:List UInt8):Int × Int × Bool:=
 match l with
 | 45::r=>parseU true r
 | r=>parseU false r
def isDigit (b:UInt8):Bool:=decide (48<=b.toNat)&&decide (b.toNat<=57)
theorem zdw {b:UInt8} (h:isDigit b=true):noSlash b=true:=by
 simp only[isDigit,Bool.and_eq_true,decide_eq_true_eq] at h
 simp only[noSlash,bne_iff_ne,ne_eq]
 rintro rfl
 simp at h
end Num
end
section
inductive Dat where
 | mk (kind n d:Int) (s:ByteArray) (l:List Dat)
namespace Dat
open Go
def kind:Dat->Int | mk k _ _ _ _=>k
def n:Dat->Int | mk _ n _ _ _=>n
def d:Dat->Int | mk _ _ d _ _=>d
def s:Dat->ByteArray | mk _ _ _ s _=>s
def l:Dat->List Dat | mk _ _ _ _ l=>l
def marks:List UInt8:=[97,98,99,100,101,102,103,104,105,106,107,108,109,110,111,112,113,114,115,116,117,118,119,120,121,122,48,49,50,51,52,53,54,55,56,57,45,43,42,47,60,62,61,33,63,95,37]
def nameByte (b:UInt8):Bool:=marks.contains b
def name (l:List UInt8):Bool:=decide (1<=l.length)&&(decide (l.length<=40)&&(l.all nameByte && !(Num.parse l).2.2))
def strByte (b:UInt8):Bool:=decide (32<=b.toNat)&&(decide (b.toNat<=126)&&(decide (b.toNat≠34)&&decide (b.toNat≠92)))
def head (k n d:Int) (s:List UInt8) (len:Nat):Bool:=
 if k=0 then Num.right n d&&(s.isEmpty&&decide (len=0))
 else if k=1 then decide (d=0)&&(decide (n=0∨n=1)&&(s.isEmpty&&decide (len=0)))
 else if k=2 then decide (d=0)&&(decide (n=0)&&(name s&&decide (len=0)))
 else if k=3 then decide (d=0)&&(decide (n=0)&&(s.all strByte&&decide (len=0)))
 else if k=4∨k=5 then decide (d=0)&&(decide (n=0)&&(s.isEmpty&&decide (len=0)))
 else if k=6 then decide (d=0)&&(decide (n=0)&&(s.isEmpty&&decide (len=2)))
 else if k=7 then decide (d=0)&&(decide (n=0)&&s.isEmpty)
 else false
mutual
def right:Dat->Nat->Bool
 | mk k n d s l,deep=>decide (deep<=200)&&(head k n d s.data.toList l.length&&rightL l (deep+1))
def rightL:List Dat->Nat->Bool
 | [],_=>true
 | x::l,deep=>right x deep&&rightL l deep
end
mutual
def few:Dat->Int->Int
 | mk _ _ _ _ l,left=>fewL l (left-1)
def fewL:List Dat->Int->Int
 | [],left=>left
 | x::l,left=>if 0<=left then fewL l (few x left) else left
end
mutual
def size:Dat->Nat->Nat
 | mk _ _ _ _ l,deep=>1+(if deep<1000 then sizeL l (deep+1) else 0)
def sizeL:List Dat->Nat->Nat
 | [],_=>0
 | x::l,deep=>size x deep+sizeL l deep
end
mutual
def all:Dat->Nat
 | mk _ _ _ _ l=>1+allL l
def allL:List Dat->Nat
 | []=>0
 | x::l=>all x+allL l
end
mutual
def alike:Dat->Dat->Bool
 | mk k n d s l,mk k' n' d' s' l'=>(decide (k=k')&&(decide (n=n')&&(decide (d=d')&&decide (s=s'))))&&alikeL l l'
def alikeL:List Dat->List Dat->Bool
 | [],[]=>true
 | x::l,y::l'=>alike x y&&alikeL l l'
 | _,_=>false
end
mutual
def text:Dat->Bool->List UInt8
 | mk k n d s l,tail=>
  if k=6 then (if tail then 32::textP l else 40::(textP l++[41]))
  else if tail then (if k=4 then [] else [32,46,32]++textA k n d s l) else textA k n d s l
def textA (k n d:Int) (s:ByteArray) (l:List Dat):List UInt8:=
 if k=0 then Num.text n d
 else if k=1 then (if n=1 then [35,116] else [35,102])
 else if k=2 then s.data.toList
 else if k=3 then 34::(s.data.toList++[34])
 else if k=4 then [40,41]
 else if k=5 then [35,118]
 else [35,40]++(textV l true++[41])
def textP:List Dat->List UInt8
 | [a,b]=>text a false++text b true
 | _=>[]
def textV:List Dat->Bool->List UInt8
 | [],_=>[]
 | x::l,first=>(if first then [] else [32])++(text x false++textV l false)
end
def null:Dat:=mk 4 0 0 ⟨#[]⟩ []
def pair (a b:Dat):Dat:=mk 6 0 0 ⟨#[]⟩ [a,b]
def list:List Dat->Dat
 | []=>null
 | x::l=>pair x (list l)
def items:Dat->Option (List Dat)
 | mk k _ _ _ [a,b]=>if k=6 then (items b).map (a :: ·) else none
 | mk k _ _ _ _=>if k=4 then some [] else none
end Dat
end
section
namespace Dat
open Go
theorem ind {P:Dat->Prop} (h:∀k n d s l,(∀x∈l,P x)->P (mk k n d s l)):∀x,P x:=by
 intro x
 refine Dat.rec (motive_1:=P) (motive_2:=fun l=>∀x∈l,P x) ?_ ?_ ?_ x
 ·intro k n d s l ih;exact h k n d s l ih
 ·intro x hx;cases hx
 ·intro x l hx hl y hy
  rcases List.mem_cons.1 hy with rfl | hy
  ·exact hx
  ·exact hl y hy
theorem all_pos (x:Dat):1<=all x:=by cases x;simp[all]
theorem zhB:∀x:Dat,∀left:Int,((all x:Int)<=left->few x left=left-all x)∧(left<all x->few x left<0):=by
 have hL:∀l:List Dat,(∀x∈l,∀left:Int,((all x:Int)<=left->few x left=left-all x)∧(left<all x->few x left<0)) ->
   ∀left:Int,((allL l:Int)<=left->fewL l left=left-allL l)∧(left<allL l->fewL l left<0):=by
  intro l
  induction l with
  | nil=>intro _ left;simp[fewL,allL]
  | cons x l ih=>
   intro h left
   have ih:=ih (fun y hy=>h y (by simp[hy]))
   have hx:=h x (by simp) left
   have hp:=all_pos x
   constructor
   ·intro hle
    simp only[allL] at hle
    rw[fewL,if_pos (by omega),hx.1 (by omega),(ih _).1 (by omega)]
    simp only[allL];omega
   ·intro hlt
    simp only[allL] at hlt
    rw[fewL]
    split
    ·by_cases hc:left<all x
     ·have:=hx.2 hc
      have e:fewL l (few x left)=few x left:=by
       cases l with
       | nil=>rfl
       | cons y l=>rw[fewL,if_neg (by omega)]
      omega
     ·rw[hx.1 (by omega)]
      exact (ih _).2 (by omega)
    ·omega
 intro x
 induction x using ind with
 | h k n d s l ih=>
  intro left
  have:=hL l ih (left-1)
  simp only[few,all]
  constructor
  ·intro h;rw[this.1 (by omega)];omega
  ·intro h;exact this.2 (by omega)
theorem few_iff (x:Dat) (left:Int):0<=few x left↔(all x:Int)<=left:=by
 have:=zhB x left
 constructor
 ·intro h
  apply Decidable.byContradiction
  intro hc
  have:=this.2 (by omega)
  omega
 ·intro h;rw[this.1 h];omega
theorem few_le (x:Dat) (left:Int):few x left<=left-1∨few x left<0:=by
 have:=zhB x left
 have hp:=all_pos x
 by_cases h:(all x:Int)<=left
 ·rw[this.1 h];omega
 ·exact .inr (this.2 (by omega))
theorem all_mem {x:Dat} {l:List Dat} (h:x∈l):all x<=allL l:=by
 induction l with
 | nil=>cases h
 | cons y l ih=>
  simp only[allL]
  rcases List.mem_cons.1 h with rfl | h
  ·omega
  ·have:=ih h;omega
theorem zc9 (l:List Dat) (deep:Nat):rightL l deep=true↔∀x∈l,right x deep=true:=by
 induction l with
 | nil=>simp[rightL]
 | cons x l ih=>simp[rightL,ih]
theorem ziz:∀x:Dat,∀a b,b<=a->right x a=true->right x b=true:=by
 intro x
 induction x using ind with
 | h k n d s l ih=>
  intro a b hab h
  simp only[right,Bool.and_eq_true,decide_eq_true_eq] at h ⊢
  refine ⟨by omega,h.2.1,?_⟩
  rw[zc9] at h ⊢
  exact fun x hx=>ih x hx (a+1) (b+1) (by omega) (h.2.2 x hx)
theorem right_part {x y:Dat} {deep:Nat} (h:right x deep=true) (hy:y∈x.l):right y 0=true:=by
 obtain ⟨k,n,d,s,l⟩:=x
 simp only[right,Bool.and_eq_true,decide_eq_true_eq] at h
 exact ziz y _ 0 (by omega) ((zc9 _ _).1 h.2.2 y hy)
end Dat
end
section
namespace Dat
open Go
def emptyB:ByteArray:=⟨#[]⟩
theorem of_toList (s:ByteArray):(⟨s.data.toList.toArray⟩:ByteArray)=s:=by
 obtain ⟨⟨l⟩⟩:=s;rfl
end Dat
end
section
open Go.RowKit
theorem zb5 {k:IntKind} {a b:Int} (h:a=b):Ending.returned (.int k a)=.returned (.int k b):=by rw[h]
theorem zar {a b:Bool} (h:a=b):Ending.returned (.bool a)=.returned (.bool b):=by rw[h]
theorem zhG {a b c:Int} {p:Int × Int × Int} (h:p=(a,b,c)):Ending.returned (.tuple #[.int .i64 a,.int .i64 b,.int .i64 c])=.returned (.tuple #[.int .i64 p.1,.int .i64 p.2.1,.int .i64 p.2.2]):=by
 rw[h]
theorem zdf (n:Int) (h0:-9223372036854775808<=n) (h:n<0):IntKind.u64.wrap (-IntKind.u64.wrap n)=n.natAbs:=by
 simp[IntKind.wrap,IntKind.bits,IntKind.signed]
 omega
theorem zeS (n:Int) (h0:-9223372036854775808<=n) (h1:n<=9223372036854775807) (w:World) :
  Calls prog 101 #[.int .i64 n] w fun e w'=>e=.returned (.int .u64 n.natAbs)∧w=w':=by
 by_cases h:n<0
 ·go_enter func101,ntmps101
  go_wp2
  go_ret
  exact ⟨zb5 (zdf n h0 h),rfl⟩
 ·go_enter func101,ntmps101
  go_wp2
  go_ret
  exact ⟨zb5 (by omega),rfl⟩
theorem zfV (n:Int) (h0:-9223372036854775808<=n) (h1:n<=9223372036854775807) (w:World) :
  Calls prog 113 #[.int .i64 n] w fun e w'=>e=.returned (.int .u64 n.natAbs)∧w=w':=by
 by_cases h:n<0
 ·go_enter func113,ntmps113
  go_wp2
  go_ret
  exact ⟨zb5 (zdf n h0 h),rfl⟩
 ·go_enter func113,ntmps113
  go_wp2
  go_ret
  exact ⟨zb5 (by omega),rfl⟩
theorem ziD (a b:Nat) (ha:a<=9223372036854775808) (hb:b<=9223372036854775808) (w:World) :
  Calls prog 100 #[.int .u64 a,.int .u64 b] w fun e w'=>e=.returned (.int .u64 (Nat.gcd a b:Nat))∧∃n,w'=w.drewN n:=by
 go_enter func100,ntmps100
 go_wp2
 go_step3
 go_wp2
 go_step3
 go_wp2
 go_loopw [0,1] (fun x y wr=>∃p q:Nat,x=.int .u64 p∧y=.int .u64 q∧p<=9223372036854775808∧q<=9223372036854775808∧Nat.gcd p q=Nat.gcd a b∧∃n,wr=w.drewN n) (fun _ y _=>(intOf y).toNat)
 case atStart=>exact ⟨a,b,rfl,rfl,ha,hb,rfl,0,rfl⟩
 case round=>
  obtain ⟨p,q,rfl,rfl,hp,hq,hg,n,rfl⟩:=hrel
  have H:=zh hg
  clear hg
  by_cases hz:q=0
  ·subst hz
   go_wp2
   rw[Exit.noGoto_ret]
   go_ret
   exact ⟨zb5 (by rw[<-H.out];simp),n,rfl⟩
  ·have hz1:((q:Int)==0)=false:=by simpa using hz
   have hlt:p % q<q:=Nat.mod_lt _ (by omega)
   have hE:=zh (show Nat.gcd q (p % q)=Nat.gcd a b by rw[Nat.gcd_comm,<-Nat.gcd_rec,Nat.gcd_comm];exact H.out)
   go_wp2
   go_quiet (fail)
   go_wp2
   go_roundw
   case rel=>exact ⟨q,p % q,rfl,by go_num,hq,by omega,hE.out,_,World.drewN_drewN _ _ _⟩
   case measure=>simp[intOf];omega
theorem zeD (a b:Int) (a0:0<=a) (ha:a<=9223372036854775808) (b0:0<=b) (hb:b<=9223372036854775808) (w:World) :
  Calls prog 100 #[.int .u64 a,.int .u64 b] w fun e w'=>e=.returned (.int .u64 (Int.gcd a b))∧∃n,w'=w.drewN n:=by
 obtain ⟨p,rfl⟩:=Int.eq_ofNat_of_zero_le a0
 obtain ⟨q,rfl⟩:=Int.eq_ofNat_of_zero_le b0
 exact ziD p q (by omega) (by omega) w
theorem zkH (a b:Nat) (ha:a<=9223372036854775808) (hb:b<=9223372036854775808) (w:World) :
  Calls prog 112 #[.int .u64 a,.int .u64 b] w fun e w'=>e=.returned (.int .u64 (Nat.gcd a b:Nat))∧w=w':=by
 go_enter func112,ntmps112
 go_wp2
 go_loop [0,1] (fun x y=>∃p q:Nat,x=.int .u64 p∧y=.int .u64 q∧p<=9223372036854775808∧q<=9223372036854775808∧Nat.gcd p q=Nat.gcd a b) (fun _ y=>(intOf y).toNat)
 case atStart=>exact ⟨a,b,rfl,rfl,ha,hb,rfl⟩
 case round=>
  obtain ⟨p,q,rfl,rfl,hp,hq,hg⟩:=hrel
  have H:=zh hg
  clear hg
  by_cases hz:q=0
  ·subst hz
   go_wp2
   go_ret
   exact ⟨zb5 (by rw[<-H.out];simp),rfl⟩
  ·have hz1:(0:Int)<q:=by omega
   have hlt:p % q<q:=Nat.mod_lt _ (by omega)
   have hE:=zh (show Nat.gcd q (p % q)=Nat.gcd a b by rw[Nat.gcd_comm,<-Nat.gcd_rec,Nat.gcd_comm];exact H.out)
   go_wp2
   go_round
   case rel=>exact ⟨q,p % q,rfl,by go_num,hq,by omega,hE.out⟩
   case measure=>simp[intOf];omega
theorem zhU (a b:Int) (a0:0<=a) (ha:a<=9223372036854775808) (b0:0<=b) (hb:b<=9223372036854775808) (w:World) :
  Calls prog 112 #[.int .u64 a,.int .u64 b] w fun e w'=>e=.returned (.int .u64 (Int.gcd a b))∧w=w':=by
 obtain ⟨p,rfl⟩:=Int.eq_ofNat_of_zero_le a0
 obtain ⟨q,rfl⟩:=Int.eq_ofNat_of_zero_le b0
 exact zkH p q (by omega) (by omega) w
theorem zeL (n d:Int):Int.gcd (n.natAbs:Int) d=Int.gcd n d:=by simp[Int.gcd]
theorem zjs (n d:Int) (h0:-9223372036854775808<=n) (h1:n<=9223372036854775807) (h2:-9223372036854775808<=d) (h3:d<=9223372036854775807) (w:World) :
  Calls prog 81 #[.int .i64 n,.int .i64 d] w fun e w'=>e=.returned (.bool (Num.right n d))∧∃k,w'=w.drewN k:=by
 go_enter func81,ntmps81
 go_wp2_with (first | (go_at_call 101;refine (zeS _ (by omega) (by omega) _).mono ?_;rintro e w' ⟨rfl,rfl⟩) | (go_at_call 100;refine (zeD _ _ (by omega) (by omega) (by omega) (by omega) _).mono ?_;rintro e w' ⟨rfl,k,rfl⟩))
 all_goals go_ret
 ·exact ⟨zar (by rw[zeL];simp[Num.right, *];rw[Bool.eq_iff_iff];simp;omega),_,rfl⟩
 all_goals exact ⟨zar (by simp[Num.right];omega),0,rfl⟩
theorem zh8 (n d:Int) (h0:-9223372036854775808<=n) (h1:n<=9223372036854775807) (h2:-9223372036854775808<=d) (h3:d<=9223372036854775807) (w:World) :
  Calls prog 91 #[.int .i64 n,.int .i64 d] w fun e w'=>e=.returned (.bool (Num.right n d))∧∃k,w'=w.drewN k:=by
 go_enter func91,ntmps91
 go_wp2_with (first | (go_at_call 113;refine (zfV _ (by omega) (by omega) _).mono ?_;rintro e w' ⟨rfl,rfl⟩) | (go_at_call 112;refine (zhU _ _ (by omega) (by omega) (by omega) (by omega) _).mono ?_;rintro e w' ⟨rfl,rfl⟩))
 all_goals go_ret
 ·exact ⟨zar (by rw[zeL];simp[Num.right, *];rw[Bool.eq_iff_iff];simp;omega),0,rfl⟩
 all_goals exact ⟨zar (by simp[Num.right];omega),0,rfl⟩
end
section
open Go.RowKit
theorem zjh (n d:Int) (G:Nat) (hG:Int.gcd n d=G) (h0:n.natAbs<=9223372036854775808) (h2:d.natAbs<=9223372036854775808) (w:World) :
  Calls prog 100 #[.int .u64 n.natAbs,.int .u64 d.natAbs] w fun e w'=>e=.returned (.int .u64 G)∧∃n,w'=w.drewN n:=by
 refine (zeD _ _ (by omega) (by omega) (by omega) (by omega) w).mono ?_
 rintro e w' ⟨rfl,k⟩
 exact ⟨by rw[<-hG];simp[Int.gcd],k⟩
theorem zlG (n d:Int) (G:Nat) (hG:Int.gcd n d=G) (h0:n.natAbs<=9223372036854775808) (h2:d.natAbs<=9223372036854775808) (w:World) :
  Calls prog 112 #[.int .u64 n.natAbs,.int .u64 d.natAbs] w fun e w'=>e=.returned (.int .u64 G)∧w=w':=by
 refine (zhU _ _ (by omega) (by omega) (by omega) (by omega) w).mono ?_
 rintro e w' ⟨rfl,k⟩
 exact ⟨by rw[<-hG];simp[Int.gcd],k⟩
theorem zkD (n d:Int) (h0:-9223372036854775808<=n) (h1:n<=9223372036854775807) (h2:-9223372036854775808<=d) (h3:d<=9223372036854775807) (w:World) :
  Calls prog 139 #[.int .i64 n,.int .i64 d] w fun e w'=>e=.returned (.tuple #[.int .i64 (Num.mk n d).1,.int .i64 (Num.mk n d).2.1,.int .i64 (Num.mk n d).2.2])∧∃k,w'=w.drewN k:=by
 by_cases hd:d=0
 ·subst hd
  go_enter func139,ntmps139
  go_wp2
  go_ret3
  exact ⟨zhG rfl,0,rfl⟩
 ·have hg:=Num.gcd_ne (n:=n) hd
  have hd0:(d==0)=false:=by simpa using hd
  obtain ⟨G,hG⟩:∃G,Int.gcd n d=G:=⟨_,rfl⟩
  obtain ⟨A,hA⟩:∃A,n.natAbs / G=A:=⟨_,rfl⟩
  obtain ⟨B,hB⟩:∃B,d.natAbs / G=B:=⟨_,rfl⟩
  rw[hG] at hg
  have HK:Hid (Num.mk n d=if 2147483647<A∨2147483647<B then (0,0,3) else if n<0↔d<0 then ((A:Int),(B:Int),0) else (-(A:Int),(B:Int),0)):=zh (by simp only[Num.mk,hd,if_false,hG,hA,hB])
  have b1:A<=n.natAbs:=by rw[<-hA];exact Nat.div_le_self _ _
  have b2:B<=d.natAbs:=by rw[<-hB];exact Nat.div_le_self _ _
  have q1:((n.natAbs:Int) / (G:Int))=A:=by rw[<-hA];rfl
  have q2:((d.natAbs:Int) / (G:Int))=B:=by rw[<-hB];rfl
  have HG:=zh hG
  clear hG hA hB
  have hg0:((G:Int)==0)=false:=by simpa using hg
  cases hn:decide (n<0)<;>cases hm:decide (d<0)
  all_goals
   have hn2:=hn
   have hm2:=hm
   simp only[decide_eq_true_eq,decide_eq_false_iff_not,Int.not_lt] at hn2 hm2
   go_enter func139,ntmps139
   go_wp2_with (first | (go_at_call 101;refine (zeS _ (by omega) (by omega) _).mono ?_;rintro e w' ⟨rfl,rfl⟩) | (go_at_call 100;refine (zjh _ _ G HG.out (by omega) (by omega) _).mono ?_;rintro e w' ⟨rfl,k,rfl⟩))
   go_quiet (fail)
   go_wp2
   all_goals
    go_ret3
    refine ⟨zhG (HK.out.trans ?_),by first | exact ⟨0,rfl⟩ | exact ⟨_,rfl⟩⟩
    first
     | (rw[if_pos (by omega)])
     | (rw[if_neg (by omega),if_pos (by omega)])
     | (rw[if_neg (by omega),if_neg (by omega)])
theorem zj5 (n d:Int) (h0:-9223372036854775808<=n) (h1:n<=9223372036854775807) (h2:-9223372036854775808<=d) (h3:d<=9223372036854775807) (w:World) :
  Calls prog 125 #[.int .i64 n,.int .i64 d] w fun e w'=>e=.returned (.tuple #[.int .i64 (Num.mk n d).1,.int .i64 (Num.mk n d).2.1,.int .i64 (Num.mk n d).2.2])∧∃k,w'=w.drewN k:=by
 by_cases hd:d=0
 ·subst hd
  go_enter func125,ntmps125
  go_wp2
  go_ret3
  exact ⟨zhG rfl,0,rfl⟩
 ·have hg:=Num.gcd_ne (n:=n) hd
  have hd0:(d==0)=false:=by simpa using hd
  obtain ⟨G,hG⟩:∃G,Int.gcd n d=G:=⟨_,rfl⟩
  obtain ⟨A,hA⟩:∃A,n.natAbs / G=A:=⟨_,rfl⟩
  obtain ⟨B,hB⟩:∃B,d.natAbs / G=B:=⟨_,rfl⟩
  rw[hG] at hg
  have HK:Hid (Num.mk n d=if 2147483647<A∨2147483647<B then (0,0,3) else if n<0↔d<0 then ((A:Int),(B:Int),0) else (-(A:Int),(B:Int),0)):=zh (by simp only[Num.mk,hd,if_false,hG,hA,hB])
  have b1:A<=n.natAbs:=by rw[<-hA];exact Nat.div_le_self _ _
  have b2:B<=d.natAbs:=by rw[<-hB];exact Nat.div_le_self _ _
  have q1:((n.natAbs:Int) / (G:Int))=A:=by rw[<-hA];rfl
  have q2:((d.natAbs:Int) / (G:Int))=B:=by rw[<-hB];rfl
  have HG:=zh hG
  clear hG hA hB
  have hg0:((G:Int)==0)=false:=by simpa using hg
  cases hn:decide (n<0)<;>cases hm:decide (d<0)
  all_goals
   have hn2:=hn
   have hm2:=hm
   simp only[decide_eq_true_eq,decide_eq_false_iff_not,Int.not_lt] at hn2 hm2
   go_enter func125,ntmps125
   go_wp2_with (first | (go_at_call 113;refine (zfV _ (by omega) (by omega) _).mono ?_;rintro e w' ⟨rfl,rfl⟩) | (go_at_call 112;refine (zlG _ _ G HG.out (by omega) (by omega) _).mono ?_;rintro e w' ⟨rfl,rfl⟩))
   all_goals
    go_ret3
    refine ⟨zhG (HK.out.trans ?_),by first | exact ⟨0,rfl⟩ | exact ⟨_,rfl⟩⟩
    first
     | (rw[if_pos (by omega)])
     | (rw[if_neg (by omega),if_pos (by omega)])
     | (rw[if_neg (by omega),if_neg (by omega)])
end
section
open Go.RowKit
end
section
open Go.RowKit
end
section
open Go.RowKit
theorem zfk (n d x y z:Int) (hq:Num.mk n d=(x,y,z)) (h0:-9223372036854775808<=n) (h1:n<=9223372036854775807) (h2:-9223372036854775808<=d) (h3:d<=9223372036854775807) (w:World) :
  Calls prog 139 #[.int .i64 n,.int .i64 d] w fun e' w'=>e'=.returned (.tuple #[.int .i64 x,.int .i64 y,.int .i64 z])∧∃k,w'=w.drewN k:=by
 have:=zkD n d (by assumption) (by assumption) (by assumption) (by assumption) w
 rw[hq] at this
 exact this
theorem zdE (n d x y z:Int) (hq:Num.mk n d=(x,y,z)) (h0:-9223372036854775808<=n) (h1:n<=9223372036854775807) (h2:-9223372036854775808<=d) (h3:d<=9223372036854775807) (w:World) :
  Calls prog 125 #[.int .i64 n,.int .i64 d] w fun e' w'=>e'=.returned (.tuple #[.int .i64 x,.int .i64 y,.int .i64 z])∧∃k,w'=w.drewN k:=by
 have:=zj5 n d (by assumption) (by assumption) (by assumption) (by assumption) w
 rw[hq] at this
 exact this
theorem zdG (n d:Int) (x:Bool) (hq:Num.right n d=x) (h0:-9223372036854775808<=n) (h1:n<=9223372036854775807) (h2:-9223372036854775808<=d) (h3:d<=9223372036854775807) (w:World) :
  Calls prog 81 #[.int .i64 n,.int .i64 d] w fun e' w'=>e'=.returned (.bool x)∧∃k,w'=w.drewN k:=by
 have:=zjs n d (by assumption) (by assumption) (by assumption) (by assumption) w
 rw[hq] at this
 exact this
theorem zgt (n d:Int) (x:Bool) (hq:Num.right n d=x) (h0:-9223372036854775808<=n) (h1:n<=9223372036854775807) (h2:-9223372036854775808<=d) (h3:d<=9223372036854775807) (w:World) :
  Calls prog 91 #[.int .i64 n,.int .i64 d] w fun e' w'=>e'=.returned (.bool x)∧∃k,w'=w.drewN k:=by
 have:=zh8 n d (by assumption) (by assumption) (by assumption) (by assumption) w
 rw[hq] at this
 exact this
end
section
structure Ins where
 op:Int
 d:Int
 a:Int
 b:Int
 l:List Int
namespace Unt
def below (n most:Int):Bool:=decide (0<=n)&&decide (n<most)
def named (x:Ins):List Int:=
 if x.op=1∨x.op=10∨x.op=11∨x.op=14 then [x.a]
 else if x.op=12∨x.op=13 then [x.a,x.b]
 else if x.op=7∨x.op=9∨x.op=21 then x.l
 else if x.op=8∨x.op=17∨x.op=19 then x.a::x.l
 else if x.op=18∨x.op=20 then x.b::x.l
 else if x.op=16∨x.op=22 then [x.a]
 else []
def gives (x:Ins):Int:=if x.op<=7∨(9<=x.op∧x.op<=11)∨x.op=14∨x.op=17∨x.op=18 then x.d else -1
def bare (x:Ins):Bool:=
 !(decide (gives x<0)&&decide (x.d≠0))&&(!(decide (x.a≠0)&&(decide (x.op=3) || decide (x.op=4)))&&(!(decide (x.b≠0)&&(decide (x.op≠12)&&(decide (x.op≠13)&&(decide (x.op≠16)&&(decide (x.op≠18)&&decide (x.op≠20)))))) &&
  (decide (x.l.length=0) || ((decide (7<=x.op)&&decide (x.op<=9)) || (decide (17<=x.op)&&decide (x.op<=21))))))
end Unt
namespace Unt
end Unt
end
section
namespace Rd
open Go Dat
inductive Res (α:Type) where
 | ok (x:α) (r:List UInt8)
 | bad (r:List UInt8)
def Res.map {α β:Type} (f:α->β):Res α->Res β
 | .ok x r=>.ok (f x) r
 | .bad r=>.bad r
def wordsL:List UInt8:=[97,98,99,100,101,102,103,104,105,106,107,108,109,110,111,112,113,114,115,116,117,118,119,120,121,122,48,49,50,51,52,53,54,55,56,57,45,43,42,47,60,62,61,33,63,95]
def mark (b:UInt8):Bool:=wordsL.contains b
def skip:Bool->List UInt8->List UInt8
 | _,[]=>[]
 | true,b::r=>if b=10 then skip false r else skip true r
 | false,b::r=>if b=59 then skip true r else if b=32∨b=10∨b=9 then skip false r else b::r
def word (r:List UInt8):Res Dat:=
 if (Num.parse (r.takeWhile mark)).2.2 then .ok (mk 0 (Num.parse (r.takeWhile mark)).1 (Num.parse (r.takeWhile mark)).2.1 emptyB []) (r.dropWhile mark)
 else if 40<(r.takeWhile mark).length then .bad r
 else .ok (mk 2 0 0 ⟨(r.takeWhile mark).toArray⟩ []) (r.dropWhile mark)
def str (r:List UInt8):Res Dat:=
 match r.dropWhile strByte with
 | []=>.bad []
 | b::t=>if b=34 then .ok (mk 3 0 0 ⟨(r.takeWhile strByte).toArray⟩ []) t else .bad (b::t)
def quoteD:Dat:=mk 2 0 0 ⟨#[113,117,111,116,101]⟩ []
def quoted (x:Dat):Dat:=list [quoteD,x]
def chain (p:List Dat × Dat):Dat:=p.1.foldr pair p.2
def hashF (S:Bool->Bool->List UInt8->Res (List Dat × Dat)) (t:List UInt8):Res Dat:=
 match t with
 | []=>.bad []
 | c::t'=>
  if c=116 then .ok (mk 1 1 0 emptyB []) t'
  else if c=102 then .ok (mk 1 0 0 emptyB []) t'
  else if c=118 then .ok (mk 5 0 0 emptyB []) t'
  else if c=40 then (S false false t').map fun p=>mk 7 0 0 emptyB p.1
  else .bad (c::t')
def headF (D:List UInt8->Res Dat) (S:Bool->Bool->List UInt8->Res (List Dat × Dat)) (b:UInt8) (t:List UInt8):Res Dat:=
 if mark b=true then word (b::t)
 else if b=34 then str t
 else if b=39 then (D t).map quoted
 else if b=35 then hashF S t
 else if b=40 then (S true false t).map chain
 else .bad (b::t)
def datF (D:List UInt8->Res Dat) (S:Bool->Bool->List UInt8->Res (List Dat × Dat)) (r:List UInt8):Res Dat:=
 match skip false r with
 | []=>.bad []
 | b::t=>headF D S b t
def shutF (x:Dat) (q:List UInt8):Res (List Dat × Dat):=
 match skip false q with
 | []=>.bad []
 | c::t'=>if c=41 then .ok ([],x) t' else .bad (c::t')
def pointF (D:List UInt8->Res Dat) (t:List UInt8):Res (List Dat × Dat):=
 match D t with
 | .bad q=>.bad q
 | .ok x q=>shutF x q
def oneF (D:List UInt8->Res Dat) (S:List UInt8->Res (List Dat × Dat)) (r:List UInt8):Res (List Dat × Dat):=
 match D r with
 | .bad q=>.bad q
 | .ok x q=>(S q).map fun p=>(x::p.1,p.2)
def seqH (D:List UInt8->Res Dat) (S:Bool->Bool->List UInt8->Res (List Dat × Dat)) (pair any:Bool) (b:UInt8) (t:List UInt8):Res (List Dat × Dat):=
 if b=41 then .ok ([],null) t
 else if b=46∧pair=true∧any=true then pointF D t
 else oneF D (S pair true) (b::t)
def seqF (D:List UInt8->Res Dat) (S:Bool->Bool->List UInt8->Res (List Dat × Dat)) (pair any:Bool) (r:List UInt8):Res (List Dat × Dat):=
 match skip false r with
 | []=>.bad []
 | b::t=>seqH D S pair any b t
def both:Nat->(List UInt8->Res Dat) × (Bool->Bool->List UInt8->Res (List Dat × Dat))
 | 0=>(fun r=>.bad r,fun _ _ r=>.bad r)
 | f+1=>(datF (both f).1 (both f).2,seqF (both f).1 (both f).2)
def D (r:List UInt8):Res Dat:=(both (2*r.length+1)).1 r
def S (pair any:Bool) (r:List UInt8):Res (List Dat × Dat):=(both (2*r.length+2)).2 pair any r
def allF:Nat->List UInt8->Res (List Dat)
 | 0,r=>.bad r
 | f+1,r=>match skip false r with
  | []=>.ok [] []
  | b::t=>match D (b::t) with
   | .bad q=>.bad q
   | .ok x q=>if right x 0=true then (allF f q).map (x :: ·) else .bad (b::t)
def A (r:List UInt8):Res (List Dat):=allF (r.length+1) r
theorem skip_suf:∀(r:List UInt8) (m:Bool),skip m r <:+ r
 | [],m=>by cases m<;>exact List.suffix_refl _
 | b::r,true=>by
  simp only[skip]
  split
  ·exact (skip_suf r false).trans (List.suffix_cons b r)
  ·exact (skip_suf r true).trans (List.suffix_cons b r)
 | b::r,false=>by
  simp only[skip]
  split
  ·exact (skip_suf r true).trans (List.suffix_cons b r)
  split
  ·exact (skip_suf r false).trans (List.suffix_cons b r)
  ·exact List.suffix_refl _
theorem skip_le (r:List UInt8) (m:Bool):(skip m r).length<=r.length:=(skip_suf r m).length_le
theorem zbx (p:UInt8->Bool) (r:List UInt8):r.dropWhile p <:+ r:=List.dropWhile_suffix p
def Good {α:Type} (r:List UInt8):Res α->Prop
 | .ok _ q=>q <:+ r∧q.length<r.length
 | .bad q=>q <:+ r
theorem Good.map {α β:Type} {r:List UInt8} {x:Res α} (h:Good r x) (f:α->β):Good r (x.map f):=by cases x<;>exact h
theorem Good.more {α:Type} {r r':List UInt8} {x:Res α} (h:Good r x) (hr:r <:+ r'):Good r' x:=by
 have:=hr.length_le
 cases x with
 | ok x q=>exact ⟨h.1.trans hr,by have:=h.2;omega⟩
 | bad q=>exact List.IsSuffix.trans h hr
theorem zi2 {b:UInt8} {t:List UInt8} (hb:mark b=true):Good (b::t) (word (b::t)):=by
 have h:(b::t).dropWhile mark <:+ t:=by rw[List.dropWhile_cons_of_pos hb];exact zbx _ _
 have hl:=h.length_le
 unfold word
 split
 ·exact ⟨zbx _ _,by simp only[qzN];omega⟩
 split
 ·exact List.suffix_refl _
 ·exact ⟨zbx _ _,by simp only[qzN];omega⟩
theorem zk2 (r:List UInt8):Good r (str r):=by
 have h:=zbx strByte r
 unfold str
 split
 ·exact List.nil_suffix
 ·rename_i b t he
  rw[he] at h
  split
  ·exact ⟨(List.suffix_cons b t).trans h,by have:=h.length_le;simp only[qzN] at this;omega⟩
  ·exact h
section
variable {D : List UInt8 -> Res Dat} {S : Bool -> Bool -> List UInt8 -> Res (List Dat × Dat)}
theorem zh1 (hS:∀p a t,Good t (S p a t)) (t:List UInt8):Good t (hashF S t):=by
 unfold hashF
 split
 ·exact List.nil_suffix
 ·rename_i c t'
  have hc:t' <:+ c::t':=List.suffix_cons c t'
  have hl:t'.length<(c::t').length:=by simp
  repeat' split
  ·exact ⟨hc,hl⟩
  ·exact ⟨hc,hl⟩
  ·exact ⟨hc,hl⟩
  ·exact ((hS false false t').map _).more hc
  ·exact List.suffix_refl _
theorem ziH (hD:∀t,Good t (D t)) (hS:∀p a t,Good t (S p a t)) (b:UInt8) (t:List UInt8):Good (b::t) (headF D S b t):=by
 have hc:t <:+ b::t:=List.suffix_cons b t
 unfold headF
 split
 ·rename_i hb;exact zi2 hb
 repeat' split
 ·exact (zk2 t).more hc
 ·exact ((hD t).map _).more hc
 ·exact (zh1 hS t).more hc
 ·exact ((hS true false t).map _).more hc
 ·exact List.suffix_refl _
theorem zjn (hD:∀t,Good t (D t)) (hS:∀p a t,Good t (S p a t)) (r:List UInt8):Good r (datF D S r):=by
 have h:=skip_suf r false
 unfold datF
 split
 ·exact List.nil_suffix
 ·rename_i b t he
  rw[he] at h
  exact (ziH hD hS b t).more h
theorem zie (x:Dat) (q:List UInt8):Good q (shutF x q):=by
 have h2:=skip_suf q false
 unfold shutF
 split
 ·exact List.nil_suffix
 ·rename_i c t' hs
  rw[hs] at h2
  have h3:=h2.length_le
  simp only[qzN] at h3
  split
  ·exact ⟨(List.suffix_cons c t').trans h2,by omega⟩
  ·exact h2
theorem zhc (hD:∀t,Good t (D t)) (t:List UInt8):Good t (pointF D t):=by
 have h:=hD t
 unfold pointF
 split
 ·rename_i q he;rw[he] at h;exact h
 ·rename_i x q he
  rw[he] at h
  exact (zie x q).more h.1
theorem zjB {S:List UInt8->Res (List Dat × Dat)} (hD:∀t,Good t (D t)) (hS:∀t,Good t (S t)) (r:List UInt8):Good r (oneF D S r):=by
 have h2:=hD r
 unfold oneF
 split
 ·rename_i q hq;rw[hq] at h2;exact h2
 ·rename_i x q hq
  rw[hq] at h2
  exact ((hS q).map _).more h2.1
theorem zjk (hD:∀t,Good t (D t)) (hS:∀p a t,Good t (S p a t)) (pair any:Bool) (b:UInt8) (t:List UInt8):Good (b::t) (seqH D S pair any b t):=by
 have hc:t <:+ b::t:=List.suffix_cons b t
 unfold seqH
 split
 ·exact ⟨hc,by simp⟩
 split
 ·exact (zhc hD t).more hc
 ·exact zjB hD (hS pair true) _
theorem zja (hD:∀t,Good t (D t)) (hS:∀p a t,Good t (S p a t)) (pair any:Bool) (r:List UInt8):Good r (seqF D S pair any r):=by
 have h:=skip_suf r false
 unfold seqF
 split
 ·exact List.nil_suffix
 ·rename_i b t he
  rw[he] at h
  exact (zjk hD hS pair any b t).more h
end
theorem zbC:∀f,(∀t,Good t ((both f).1 t))∧(∀p a t,Good t ((both f).2 p a t))
 | 0=>⟨fun _t=>List.suffix_refl _,fun _ _ _t=>List.suffix_refl _⟩
 | f+1=>⟨zjn (zbC f).1 (zbC f).2,zja (zbC f).1 (zbC f).2⟩
theorem D_good (r:List UInt8):Good r (D r):=(zbC _).1 r
section
variable {D D' : List UInt8 -> Res Dat} {S S' : Bool -> Bool -> List UInt8 -> Res (List Dat × Dat)}
theorem zeF (r:List UInt8) (hD:∀t,t.length<r.length->D t=D' t) (hS:∀p a t,t.length<r.length->S p a t=S' p a t):datF D S r=datF D' S' r:=by
 have h:=skip_le r false
 unfold datF
 split
 ·rfl
 ·rename_i b t he
  rw[he] at h
  simp only[qzN] at h
  unfold headF
  rw[hD t (by omega),hS true false t (by omega)]
  have:hashF S t=hashF S' t:=by
   unfold hashF
   split
   ·rfl
   ·rename_i c t'
    rw[hS false false t' (by simp only[qzN] at h;omega)]
  rw[this]
theorem zeR (pair any:Bool) (r:List UInt8) (hg:∀t,Good t (D t)) (hD:∀t,t.length<=r.length->D t=D' t) (hS:∀p a t,t.length<r.length->S p a t=S' p a t):seqF D S pair any r=seqF D' S' pair any r:=by
 have h:=skip_le r false
 unfold seqF
 split
 ·rfl
 ·rename_i b t he
  rw[he] at h
  simp only[qzN] at h
  have e1:pointF D t=pointF D' t:=by unfold pointF;rw[hD t (by omega)]
  have e2:oneF D (S pair true) (b::t)=oneF D' (S' pair true) (b::t):=by
   unfold oneF
   rw[<-hD (b::t) (by simpa using h)]
   have h2:=hg (b::t)
   cases hq:D (b::t) with
   | bad q=>rfl
   | ok x q=>
    rw[hq] at h2
    have:=h2.2
    simp only[qzN] at this
    simp only[hS pair true q (by omega)]
  unfold seqH
  rw[e1,e2]
end
theorem zdH:∀f g,(∀r,2*r.length<f->2*r.length<g->(both f).1 r=(both g).1 r)∧(∀p a r,2*r.length+1<f->2*r.length+1<g->(both f).2 p a r=(both g).2 p a r)
  | 0,_=>⟨fun _ h=>by omega,fun _ _ _ h=>by omega⟩
  | _+1,0=>⟨fun _ _ h=>by omega,fun _ _ _ _ h=>by omega⟩
  | f+1,g+1=>
    have ih:=zdH f g
    ⟨fun r h1 h2=>zeF r (fun t ht=>ih.1 t (by omega) (by omega)) (fun p a t ht=>ih.2 p a t (by omega) (by omega)),
     fun p a r h1 h2=>zeR p a r (zbC f).1 (fun t ht=>ih.1 t (by omega) (by omega)) (fun p a t ht=>ih.2 p a t (by omega) (by omega))⟩
theorem zli {f:Nat} {r:List UInt8} (h:2*r.length<f):(both f).1 r=D r:=(zdH _ _).1 r h (by omega)
theorem zlh {f:Nat} {p a:Bool} {r:List UInt8} (h:2*r.length+1<f):(both f).2 p a r=S p a r:=(zdH _ _).2 p a r h (by omega)
theorem D_eq (r:List UInt8):D r=datF D S r:=
 zeF (D:=(both (2*r.length)).1) (S:=(both (2*r.length)).2) r (fun _ _=>zli (by omega)) (fun _ _ _ _=>zlh (by omega))
theorem S_eq (p a:Bool) (r:List UInt8):S p a r=seqF D S p a r:=
 zeR (D:=(both (2*r.length+1)).1) (S:=(both (2*r.length+1)).2) p a r (zbC _).1 (fun _ _=>zli (by omega)) (fun _ _ _ _=>zlh (by omega))
def allG (A:List UInt8->Res (List Dat)) (r:List UInt8):Res (List Dat):=
 match skip false r with
 | []=>.ok [] []
 | b::t=>match D (b::t) with
  | .bad q=>.bad q
  | .ok x q=>if right x 0=true then (A q).map (x :: ·) else .bad (b::t)
theorem zeO {A A':List UInt8->Res (List Dat)} (r:List UInt8) (h:∀q,q.length<r.length->A q=A' q):allG A r=allG A' r:=by
 have h1:=skip_le r false
 unfold allG
 split
 ·rfl
 ·rename_i b t he
  rw[he] at h1
  have h2:=D_good (b::t)
  cases hq:D (b::t) with
  | bad q=>rfl
  | ok x q=>
   rw[hq] at h2
   have:=h2.2
   simp only[h q (by omega)]
theorem zfI:∀f g r,r.length<f->r.length<g->allF f r=allF g r
 | 0,_,_,h,_=>by omega
 | _+1,0,_,_,h=>by omega
 | f+1,g+1,r,_,_=>zeO r fun q hq=>zfI f g q (by omega) (by omega)
theorem A_eq (r:List UInt8):A r=allG A r:=
 zeO (A:=allF r.length) r fun q hq=>zfI _ _ q (by omega) (by omega)
end Rd
end
section
open Go.RowKit
def Env (w : World) : Prop := Lib.TabIs prog w "internal/strconv.uint64pow10" .u64 Lib.pow10Tab
theorem zi9 {w:World} {cs:Array Value} {n:String} {g:Nat} (hg:prog.globalNamed n=some g) (h:w.var? prog n=some cs):g<w.heap.size:=by
 unfold World.var? at h
 rw[hg] at h
 simp only[Option.bind_some] at h
 split at h
 ·rename_i he
  exact (Array.getElem?_eq_some_iff.1 he).1
 ·cases h
theorem Env.below {w w':World} (h:Env w) (hb:Below w.heap.size w w'):Env w':=by
 have hg : prog.globalNamed "internal/strconv.uint64pow10" = some 1 := by kernel_rfl
 have hlt:=zi9 hg h
 unfold Env Lib.TabIs World.var? at h ⊢
 rw[hg] at h ⊢
 simp only[Option.bind_some] at h ⊢
 rw[hb.block _ hlt]
 exact h
theorem Env.drewN {w:World} (h:Env w) (k:Nat):Env (w.drewN k):=h
theorem Below.next {w w1 w2:World} (h:Below w.heap.size w w1) (h':Below w1.heap.size w1 w2):Below w.heap.size w w2:=
 h.trans (h'.mono h.size)
theorem Below.drewN {w w1:World} {B:Nat} (h:Below B w w1) (k:Nat):Below B w (w1.drewN k):=⟨h.os,h.tape,h.output,h.size,h.block⟩
theorem Below.self (w:World):Below w.heap.size w w:=qzB
theorem Below.selfN (w:World) (k:Nat):Below w.heap.size w (w.drewN k):=⟨rfl,rfl,rfl,qzL,fun _ _=>rfl⟩
theorem Below.ofN {w w1:World} {k:Nat} (h:Below (w.drewN k).heap.size (w.drewN k) w1):Below w.heap.size w w1:=⟨h.os,h.tape,h.output,h.size,h.block⟩
theorem zgW (a b:List UInt8):((⟨a.toArray⟩:ByteArray)++(⟨b.toArray⟩:ByteArray))=⟨(a++b).toArray⟩:=by
 apply ByteArray.ext
 rw[ByteArray.data_append]
 simp
theorem zdD (n:Int) (h0:-9223372036854775808<=n) (h1:n<=9223372036854775807) (w:World) (hE:Env w) :
  Calls prog 98 #[.int .i64 n] w fun e w'=>e=.returned (.string ⟨(Lib.itoa n).toArray⟩)∧Below w.heap.size w w':=by
 refine (strconv_Itoa n h0 h1 w hE).mono ?_
 rintro e w' ⟨rfl,k,os,rfl⟩
 exact ⟨rfl,Lib.below_grow _ _ qzL _ _⟩
theorem zhE (s cutset:ByteArray) (hs:s.size<=9223372036854775807) (hcs:cutset.size<4294967281) (ha:cutset.data.toList.all (fun b=>decide (b.toNat<128))=true) (w:World) :
  Calls prog 102 #[.string s,.string cutset] w fun e w'=>e=.returned (.string ⟨(Lib.trimS s.data.toList cutset.data.toList).toArray⟩)∧Below w.heap.size w w':=
 Any.strings_Trim_laid lays160 (by kernel_rfl) s cutset w hs hcs (ascii_of_all ha)
theorem zkq (s:ByteArray) (n:Int) (hl:s.size<=18) (h:Lib.atoi s.data.toList=some n) (w:World) :
  Calls prog 160 #[.string s] w fun e w'=>e=.returned (.tuple #[.int .i64 n,.nilIface])∧Below w.heap.size w w':=by
 refine (strconv_Atoi s n hl h w).mono ?_
 rintro e w' ⟨rfl,t,rfl⟩
 exact ⟨rfl,rfl,rfl,rfl,by rw[Lib.bytesWorld_size];omega,fun k hk=>Lib.bytesWorld_at_old _ _ _ _ hk⟩
end
section
namespace Rd
open Go Dat
section
variable {D : List UInt8 -> Res Dat} {S : Bool -> Bool -> List UInt8 -> Res (List Dat × Dat)}
end
theorem A_nil {r:List UInt8} (h:skip false r=[]):A r=.ok [] []:=by rw[A_eq];unfold allG;rw[h]
theorem A_cons {r t:List UInt8} {b:UInt8} (h:skip false r=b::t):A r=match D (b::t) with
  | .bad q=>.bad q
  | .ok x q=>if right x 0=true then (A q).map (x :: ·) else .bad (b::t):=by rw[A_eq];unfold allG;rw[h]<;>rfl
end Rd
end
section
open Go.RowKit
mutual
def RepD (w:World) (B:Nat):Dat->Value->Prop
 | .mk k n d s l,v=>∃o len cap,v=.agg #[.int .i64 k,.int .i64 n,.int .i64 d,.string s,.slice o len cap] ∧
   (-9223372036854775808<=k∧k<=9223372036854775807)∧(-9223372036854775808<=n∧n<=9223372036854775807)∧(-9223372036854775808<=d∧d<=9223372036854775807)∧s.size<=140737488351232 ∧
   len=l.length∧len<=cap∧cap<=9223372036854775807∧(match o with | none=>l=[]∧cap=0 | some a=>(l≠[]->a.spot=none∧a.block<B)∧RepC w B l a.block a.off)
def RepC (w:World) (B:Nat):List Dat->Nat->Nat->Prop
 | [],_,_=>True
 | x::l,b,off=>(∃c0 c1 c2 c3 c4,w.cell? ⟨b,off,none⟩=some c0∧w.cell? ⟨b,off+1,none⟩=some c1∧w.cell? ⟨b,off+2,none⟩=some c2∧w.cell? ⟨b,off+3,none⟩=some c3∧w.cell? ⟨b,off+4,none⟩=some c4∧RepD w B x (.agg #[c0,c1,c2,c3,c4]))∧RepC w B l b (off+5)
end
def RepS (w:World) (B:Nat) (l:List Dat) (v:Value):Prop:=
 ∃o len cap,v=.slice o len cap∧len=l.length∧len<=cap∧cap<=9223372036854775807∧(match o with | none=>l=[]∧cap=0 | some a=>(l≠[]->a.spot=none∧a.block<B)∧RepC w B l a.block a.off)
theorem RepD.open {w:World} {B:Nat} {k n d:Int} {s:ByteArray} {l:List Dat} {v:Value} (h:RepD w B (.mk k n d s l) v) :
  ∃sl,v=.agg #[.int .i64 k,.int .i64 n,.int .i64 d,.string s,sl]∧(-9223372036854775808<=k∧k<=9223372036854775807)∧(-9223372036854775808<=n∧n<=9223372036854775807)∧(-9223372036854775808<=d∧d<=9223372036854775807)∧s.size<=140737488351232∧RepS w B l sl:=by
 rw[RepD] at h
 obtain ⟨o,len,cap,rfl,h1,h2,h3,h4,h5⟩:=h
 exact ⟨_,rfl,h1,h2,h3,h4,o,len,cap,rfl,h5⟩
theorem RepD.shut {w:World} {B:Nat} {k n d:Int} {s:ByteArray} {l:List Dat} {sl:Value} (h1:-9223372036854775808<=k∧k<=9223372036854775807) (h2:-9223372036854775808<=n∧n<=9223372036854775807) (h3:-9223372036854775808<=d∧d<=9223372036854775807) (h4:s.size<=140737488351232) (h:RepS w B l sl) :
  RepD w B (.mk k n d s l) (.agg #[.int .i64 k,.int .i64 n,.int .i64 d,.string s,sl]):=by
 obtain ⟨o,len,cap,rfl,h5⟩:=h
 rw[RepD]
 exact ⟨o,len,cap,rfl,h1,h2,h3,h4,h5⟩
theorem RepC.at {w:World} {B b:Nat}:∀{l:List Dat} {off:Nat},RepC w B l b off->∀(i:Nat) (x:Dat),l[i]?=some x ->
  ∃c0 c1 c2 c3 c4,w.cell? ⟨b,off+i*5,none⟩=some c0∧w.cell? ⟨b,off+i*5+1,none⟩=some c1∧w.cell? ⟨b,off+i*5+2,none⟩=some c2∧w.cell? ⟨b,off+i*5+3,none⟩=some c3∧w.cell? ⟨b,off+i*5+4,none⟩=some c4∧RepD w B x (.agg #[c0,c1,c2,c3,c4])
 | [],_,_,i,x,hx=>by simp at hx
 | y::l,off,h,i,x,hx=>by
  rw[RepC] at h
  cases i with
  | zero=>
   simp only[List.getElem?_cons_zero,Option.some.injEq] at hx
   subst hx
   simpa using h.1
  | succ i=>
   have:=RepC.at h.2 i x (by simpa using hx)
   have e:off+(i+1)*5=off+5+i*5:=by omega
   rw[e];exact this
theorem zeZ {w w':World} {B:Nat} (hk:∀b o,b<B->w'.cell? ⟨b,o,none⟩=w.cell? ⟨b,o,none⟩) :
  (∀x v,RepD w B x v->RepD w' B x v)∧(∀l b off,b<B->RepC w B l b off->RepC w' B l b off):=by
 have both:(∀x:Dat,∀v,RepD w B x v->RepD w' B x v):=by
  intro x
  refine Dat.rec (motive_1:=fun x=>∀v,RepD w B x v->RepD w' B x v) (motive_2:=fun l=>∀b off,b<B->RepC w B l b off->RepC w' B l b off) ?_ ?_ ?_ x
  ·intro k n d s l ih v h
   rw[RepD] at h ⊢
   obtain ⟨o,len,cap,rfl,h1,h2,h3,h4,h5,h6,h7,h8⟩:=h
   refine ⟨o,len,cap,rfl,h1,h2,h3,h4,h5,h6,h7,?_⟩
   cases o with
   | none=>exact h8
   | some a=>
    refine ⟨h8.1,?_⟩
    by_cases hl:l=[]
    ·subst hl;rw[RepC];trivial
    ·exact ih _ _ (h8.1 hl).2 h8.2
  ·intro b off _ _;rw[RepC];trivial
  ·intro x l ihx ihl b off hb h
   rw[RepC] at h ⊢
   obtain ⟨⟨c0,c1,c2,c3,c4,h0,h1,h2,h3,h4,h5⟩,h6⟩:=h
   exact ⟨⟨c0,c1,c2,c3,c4,by rw[hk _ _ hb];exact h0,by rw[hk _ _ hb];exact h1,by rw[hk _ _ hb];exact h2,by rw[hk _ _ hb];exact h3,by rw[hk _ _ hb];exact h4,ihx _ h5⟩,ihl _ _ hb h6⟩
 refine ⟨both,?_⟩
 intro l
 induction l with
 | nil=>intro b off _ _;rw[RepC];trivial
 | cons x l ih=>
  intro b off hb h
  rw[RepC] at h ⊢
  obtain ⟨⟨c0,c1,c2,c3,c4,h0,h1,h2,h3,h4,h5⟩,h6⟩:=h
  exact ⟨⟨c0,c1,c2,c3,c4,by rw[hk _ _ hb];exact h0,by rw[hk _ _ hb];exact h1,by rw[hk _ _ hb];exact h2,by rw[hk _ _ hb];exact h3,by rw[hk _ _ hb];exact h4,both _ _ h5⟩,ih _ _ hb h6⟩
theorem zbT {B:Nat} {w w':World} (h:Below B w w'):∀b o,b<B->w'.cell? ⟨b,o,none⟩=w.cell? ⟨b,o,none⟩:=
 fun b o hb=>h.cell (p:=⟨b,o,none⟩) hb
theorem RepD.kept {w w':World} {B:Nat} {x:Dat} {v:Value} (h:RepD w B x v) (hb:Below B w w'):RepD w' B x v:=(zeZ (zbT hb)).1 x v h
theorem RepC.kept {w w':World} {B:Nat} {l:List Dat} {b off:Nat} (h:RepC w B l b off) (hB:b<B) (hb:Below B w w'):RepC w' B l b off:=(zeZ (zbT hb)).2 l b off hB h
theorem RepS.kept {w w':World} {B:Nat} {l:List Dat} {v:Value} (h:RepS w B l v) (hb:Below B w w'):RepS w' B l v:=by
 obtain ⟨o,len,cap,rfl,h1,h2,h3,h4⟩:=h
 refine ⟨o,len,cap,rfl,h1,h2,h3,?_⟩
 cases o with
 | none=>exact h4
 | some a=>
  refine ⟨h4.1,?_⟩
  by_cases hl:l=[]
  ·subst hl;rw[RepC];trivial
  ·exact h4.2.kept (h4.1 hl).2 hb
theorem zf2 {w:World} {B B':Nat} (hB:B<=B'):(∀x v,RepD w B x v->RepD w B' x v)∧(∀l b off,RepC w B l b off->RepC w B' l b off):=by
 have both:(∀x:Dat,∀v,RepD w B x v->RepD w B' x v):=by
  intro x
  refine Dat.rec (motive_1:=fun x=>∀v,RepD w B x v->RepD w B' x v) (motive_2:=fun l=>∀b off,RepC w B l b off->RepC w B' l b off) ?_ ?_ ?_ x
  ·intro k n d s l ih v h
   rw[RepD] at h ⊢
   obtain ⟨o,len,cap,rfl,h1,h2,h3,h4,h5,h6,h7,h8⟩:=h
   refine ⟨o,len,cap,rfl,h1,h2,h3,h4,h5,h6,h7,?_⟩
   cases o with
   | none=>exact h8
   | some a=>exact ⟨fun hl=>⟨(h8.1 hl).1,qzM (h8.1 hl).2 hB⟩,ih _ _ h8.2⟩
  ·intro b off _;rw[RepC];trivial
  ·intro x l ihx ihl b off h
   rw[RepC] at h ⊢
   obtain ⟨⟨c0,c1,c2,c3,c4,h0,h1,h2,h3,h4,h5⟩,h6⟩:=h
   exact ⟨⟨c0,c1,c2,c3,c4,h0,h1,h2,h3,h4,ihx _ h5⟩,ihl _ _ h6⟩
 refine ⟨both,?_⟩
 intro l
 induction l with
 | nil=>intro b off _;rw[RepC];trivial
 | cons x l ih=>
  intro b off h
  rw[RepC] at h ⊢
  obtain ⟨⟨c0,c1,c2,c3,c4,h0,h1,h2,h3,h4,h5⟩,h6⟩:=h
  exact ⟨⟨c0,c1,c2,c3,c4,h0,h1,h2,h3,h4,both _ _ h5⟩,ih _ _ h6⟩
theorem RepD.wider {w:World} {B B':Nat} {x:Dat} {v:Value} (h:RepD w B x v) (hB:B<=B'):RepD w B' x v:=(zf2 hB).1 x v h
theorem RepS.wider {w:World} {B B':Nat} {l:List Dat} {v:Value} (h:RepS w B l v) (hB:B<=B'):RepS w B' l v:=by
 obtain ⟨o,len,cap,rfl,h1,h2,h3,h4⟩:=h
 refine ⟨o,len,cap,rfl,h1,h2,h3,?_⟩
 cases o with
 | none=>exact h4
 | some a=>exact ⟨fun hl=>⟨(h4.1 hl).1,qzM (h4.1 hl).2 hB⟩,(zf2 hB).2 _ _ _ h4.2⟩
end
section
open Go.RowKit
theorem zlK:∀x:Dat,∀left:Int,0<=left->-1<=Dat.few x left:=by
 have hL:∀l:List Dat,(∀x∈l,∀left:Int,0<=left->-1<=Dat.few x left)->∀left:Int, -1<=left->-1<=Dat.fewL l left:=by
  intro l
  induction l with
  | nil=>intro _ left h;simpa[Dat.fewL] using h
  | cons x l ih=>
   intro hx left h
   rw[Dat.fewL]
   split
   ·exact ih (fun y hy=>hx y (by simp[hy])) _ (hx x (by simp) _ (by omega))
   ·exact h
 intro x
 induction x using Dat.ind with
 | h k n d s l ih=>
  intro left h
  rw[Dat.few]
  exact hL l ih _ (by omega)
theorem zjq {l:List Dat} {i:Nat} {x:Dat} {cur:Int} (h:l[i]?=some x) (hc:0<=cur):Dat.fewL (l.drop i) cur=Dat.fewL (l.drop (i+1)) (Dat.few x cur):=by
 have e:l.drop i=x::l.drop (i+1):=by
  obtain ⟨hi,he⟩:=List.getElem?_eq_some_iff.1 h
  rw[<-he];exact List.drop_eq_getElem_cons hi
 rw[e,Dat.fewL,if_pos hc]
theorem zkF (l:List Dat) {cur:Int} (hc:¬0<=cur):Dat.fewL l cur=cur:=by
 cases l with
 | nil=>rfl
 | cons x l=>rw[Dat.fewL,if_neg hc]
theorem zbM (w:World) (cs:Array Value) (t:TypeId) (i:Nat) {v:Value} (h:cs[i]?=some v):(w.alloc (.cells cs t)).cell? ⟨w.heap.size,i,none⟩=some v:=by
 have hn:(w.alloc (.cells cs t)).heap[w.heap.size]?=some (.cells cs t):=(MapKept.heap_alloc w _).1
 show (match (w.alloc (.cells cs t)).heap[w.heap.size]? with | some (.cells c _ _)=>_ | _=>_)=_
 rw[hn]
 simpa using h
theorem zjx {w wr:World} {B:Nat} {l:List Dat} {o:Option Addr} {cap j:Nat} {x:Dat} (h:match o with | none=>l=[]∧cap=0 | some a=>(l≠[]->a.spot=none∧a.block<B)∧RepC w B l a.block a.off)
  (hb:Below B w wr) (hx:l[j]?=some x) :
  ∃b off,o=some ⟨b,off,none⟩∧∃c0 c1 c2 c3 c4,wr.cell? ⟨b,off+j*5,none⟩=some c0∧wr.cell? ⟨b,off+j*5+1,none⟩=some c1∧wr.cell? ⟨b,off+j*5+2,none⟩=some c2∧wr.cell? ⟨b,off+j*5+3,none⟩=some c3∧wr.cell? ⟨b,off+j*5+4,none⟩=some c4∧RepD wr B x (.agg #[c0,c1,c2,c3,c4]):=by
 cases o with
 | none=>rw[h.1] at hx;simp at hx
 | some a=>
  have hl:l≠[]:=by rintro rfl;simp at hx
  obtain ⟨b,off,sp⟩:=a
  obtain ⟨hs,hlt⟩:=h.1 hl
  simp only at hs hlt
  subst hs
  exact ⟨b,off,rfl,(h.2.kept hlt hb).at j x hx⟩
theorem zat {w wr:World} {B:Nat} {l:List Dat} {o:Option Addr} {cap j:Nat} {x:Dat} (h:match o with | none=>l=[]∧cap=0 | some a=>(l≠[]->a.spot=none∧a.block<B)∧RepC w B l a.block a.off)
  (hb:Below B w wr) (hx:l[j]?=some x) :
  ∃b off k n d s l' o' len' cap',o=some ⟨b,off,none⟩∧x=.mk k n d s l'∧wr.cell? ⟨b,off+j*5,none⟩=some (.int .i64 k)∧wr.cell? ⟨b,off+j*5+1,none⟩=some (.int .i64 n)∧wr.cell? ⟨b,off+j*5+2,none⟩=some (.int .i64 d) ∧
   wr.cell? ⟨b,off+j*5+3,none⟩=some (.string s)∧wr.cell? ⟨b,off+j*5+4,none⟩=some (.slice o' len' cap')∧RepD wr B (.mk k n d s l') (.agg #[.int .i64 k,.int .i64 n,.int .i64 d,.string s,.slice o' len' cap']):=by
 obtain ⟨b,off,ho,c0,c1,c2,c3,c4,e0,e1,e2,e3,e4,er⟩:=zjx h hb hx
 obtain ⟨k,n,d,s,l'⟩:=x
 obtain ⟨sl,hv,_,_,_,_,o',len',cap',hsl,_⟩:=er.open
 subst hsl
 simp only[Value.agg.injEq,Array.mk.injEq,List.cons.injEq,and_true] at hv
 obtain ⟨rfl,rfl,rfl,rfl,rfl⟩:=hv
 exact ⟨b,off,k,n,d,s,l',o',len',cap',ho,rfl,e0,e1,e2,e3,e4,er⟩
theorem zk0:∀(x:Dat) (v:Value) (left:Int) (B:Nat) (w:World),RepD w B x v->B<=w.heap.size->0<=left->left<=100000 ->
  Calls prog 37 #[v,.int .i64 left] w fun e w'=>e=.returned (.int .i64 (Dat.few x left))∧Below w.heap.size w w':=by
 intro x
 induction x using Dat.ind with
 | h k n d s l ih=>
  intro v left B w hv hB h0 h1
  obtain ⟨sl,rfl,_,_,_,_,o,len,cap,rfl,jk,hcap,hmax,hc⟩:=hv.open
  have IH:=zh ih
  have HV:=zh hc
  have HL:=zh jk
  clear ih hv hc jk
  go_enter func37,ntmps37
  go_wp2
  have hBox:∀wr,Below (w.heap.size+1) (w.alloc (.cells #[.int .i64 k,.int .i64 n,.int .i64 d,.string s,.slice o len cap] 26)) wr->wr.cell? ⟨w.heap.size,4,none⟩=some (.slice o len cap):=by
   intro wr hb
   rw[hb.cell (p:=⟨w.heap.size,4,none⟩) (by simp)]
   exact zbM _ _ _ _ (by simp)
  have HB:=zh hBox
  clear hBox
  go_loopw [1,5] (fun a i wr=>∃(cur:Int) (j:Nat),a=.int .i64 cur∧i=.int .i64 j∧j<=len∧-1<=cur∧cur<=100000∧Dat.fewL (l.drop j) cur=Dat.fewL l (left-1)∧Below (w.heap.size+1) (w.alloc (.cells #[.int .i64 k,.int .i64 n,.int .i64 d,.string s,.slice o len cap] 26)) wr) (fun _ i _=>len-(intOf i).toNat)
  case atStart=>exact ⟨left-1,0,rfl,rfl,by omega,by omega,by omega,rfl,qzB⟩
  case round=>
   obtain ⟨cur,j,rfl,rfl,hj,hc1,hc2,hf,hb⟩:=hrel
   have HF:=zh hf
   clear hf
   have hcell:=HB.out _ hb
   by_cases hjl:j<len
   ·by_cases hcur:0<=cur
    ·obtain ⟨x,hx⟩:∃x,l[j]?=some x:=⟨_,List.getElem?_eq_getElem (by rw[<-HL.out];exact hjl)⟩
     have hbw:Below w.heap.size w wr:=(qzB.alloc qzL _).trans (hb.mono (by omega))
     obtain ⟨b,off,ho,c0,c1,c2,c3,c4,e0,e1,e2,e3,e4,er⟩:=zjx HV.out (hbw.mono hB) hx
     subst ho
     have HX:=zh hx
     have ER:=zh er
     have HF2:=zh ((zjq hx hcur).symm.trans HF.out)
     have g1:=zlK x cur hcur
     have g2:=Dat.few_le x cur
     have hsz:=hbw.size
     obtain ⟨y,hy⟩:∃y,Dat.few x cur=y:=⟨_,rfl⟩
     rw[hy] at g1 g2 HF2
     have HY:=zh hy
     clear hx er hy
     go_wp2_with (first | (go_at_call 37;refine (IH.out x (List.mem_of_getElem? HX.out) _ _ B _ ER.out (by omega) (by omega) (by omega)).mono ?_;rw[HY.out];rintro e' w1 ⟨rfl,hb1⟩))
     go_roundw
     case rel=>exact ⟨y,j+1,rfl,by go_num,by omega,by omega,by omega,HF2.out,hb.trans (hb1.mono (by have:=hb.size;simp at this;omega))⟩
     case measure=>simp[intOf];omega
    ·have HR:=zh (show Dat.fewL l (left-1)=cur by rw[<-HF.out,zkF _ hcur])
     go_wp2
     go_ret
     exact ⟨zb5 (by rw[Dat.few];exact HR.out.symm),(qzB.alloc qzL _).trans (hb.mono (by omega))⟩
   ·have HR:=zh (show Dat.fewL l (left-1)=cur by
     rw[<-HF.out,List.drop_eq_nil_of_le (by rw[<-HL.out];omega)];rfl)
    go_wp2
    go_ret
    exact ⟨zb5 (by rw[Dat.few];exact HR.out.symm),(qzB.alloc qzL _).trans (hb.mono (by omega))⟩
theorem zhF (x:Dat) (v:Value) (left:Int) (B:Nat) (w:World) (hv:RepD w B x v) (hB:B<=w.heap.size) (h0:0<=left) (h1:left<=100000) :
  Calls prog 14 #[v,.int .i64 left] w fun e w'=>e=.returned (.bool (decide (0<=Dat.few x left)))∧Below w.heap.size w w':=by
 obtain ⟨k,n,d,s,l⟩:=x
 obtain ⟨sl,rfl,_⟩:=hv.open
 have HV:=zh hv
 clear hv
 obtain ⟨y,hy⟩:∃y,Dat.few (.mk k n d s l) left=y:=⟨_,rfl⟩
 rw[hy]
 have HY:=zh hy
 clear hy
 go_enter func14,ntmps14
 go_wp2_with (first | (go_at_call 37;refine (zk0 (.mk k n d s l) _ left B _ (HV.out.kept ((qzB.alloc qzL _).mono hB)) (by simp;omega) h0 h1).mono ?_;rw[HY.out];rintro e' w1 ⟨rfl,hb1⟩))
 go_ret
 exact ⟨rfl,(qzB.alloc qzL _).trans (hb1.mono (by simp))⟩
end
end Go.Proofs.YtnbjhmafnigefaaGreatDoor
