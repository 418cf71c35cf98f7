/-
  What the proofs lean on: Plain, Shelf.
-/
import Derived.Lib.ItoaNum
import Derived.Lib.Atoi
import Derived.Lib.AtoiAll
import Derived.Lib.SlTrimSet
import Derived.Shelf.Strings.Builder1
import Derived.Shelf.Strings.Trim
import Derived.Shelf.Small.Utf8
import Derived.Shelf.Small.Strs
import Derived.Shelf.Small.Wraps
import Derived.Shelf.Strings.BuilderF
import Derived.Shelf.Strings.BuilderK
import Derived.Shelf.Strconv.Atoi
import Derived.Shelf.Strconv.Itoa0
import Derived.Shelf.Strconv.Itoa1
import Derived.Shelf.LaysM
import Derived.Shelf.Strconv.Itoa2
import Derived.Shelf.Strconv.Itoa3
import Derived.Shelf.Strconv.AtoiErrFast
import Derived.Shelf.Strconv.Clone
import Derived.Shelf.Strings.Search1
import Derived.Shelf.Strings.Search2
import Derived.Shelf.Strings.Search3
import Derived.Shelf.Strings.Cut
import Derived.Shelf.Strings.Shaped
import Derived.Shelf.Strings.Prefix
import Derived.Shelf.Strings.Runes
import Derived.Shelf.Strings.AsciiSet
import Derived.Shelf.Unicode.DecodeSlow
import Derived.Shelf.Strings.BuilderCap
import Derived.Shelf.Strings.SlTrimAscii
import Derived.Test.YtpcneeekmhdhgaaGreatDoorProg
set_option maxRecDepth 100000
set_option maxHeartbeats 16000000
namespace Go.Proofs
open Go.Shelf
def Tryz.lays169_ren : Go.Shelf.Ren := ⟨fun | 169 => 48 | n => n, fun | 70 => 63 | 9 => 9 | 0 => 0 | 72 => 66 | 37 => 64 | 127 => 96 | 3 => 3 | 5 => 5 | n => n, fun | n => n⟩
theorem Tryz.lays169 : Go.Proofs.Lays.n169 Tryz.prog Tryz.lays169_ren := {
 mixed := by kernel_rfl
 f169 := Tryz.func48.trans (congrArg some (by kernel_rfl))
 t0 := Tryz.underlying0
 a0 := Tryz.isAgg0
 z0 := Tryz.sizeOf0
 v0 := Tryz.zeroValue0
 t3 := Tryz.underlying3
 a3 := Tryz.isAgg3
 z3 := Tryz.sizeOf3
 v3 := Tryz.zeroValue3
 t9 := Tryz.underlying9
 a9 := Tryz.isAgg9
 z9 := Tryz.sizeOf9
 v9 := Tryz.zeroValue9
 t37 := Tryz.underlying64
 a37 := Tryz.isAgg64
 z37 := Tryz.sizeOf64
 v37 := Tryz.zeroValue64
 t70 := Tryz.underlying63
 a70 := Tryz.isAgg63
 z70 := Tryz.sizeOf63
 v70 := Tryz.zeroValue63
 t72 := Tryz.underlying66
 a72 := Tryz.isAgg66
 z72 := Tryz.sizeOf66
 v72 := Tryz.zeroValue66
 t127 := Tryz.underlying96
 a127 := Tryz.isAgg96
 z127 := Tryz.sizeOf96
 v127 := Tryz.zeroValue96 }
theorem Tryz.Builder_Extra_169 : Builder.Extra Tryz.prog Tryz.lays169_ren := {
 sizeBuilder := by kernel_rfl
 liesBuilder := by kernel_rfl
 t5 := Tryz.underlying5
 a5 := Tryz.isAgg5
 z5 := Tryz.sizeOf5
 v5 := Tryz.zeroValue5
 infoByte := by kernel_rfl
 cellsByte := by kernel_rfl
 sizeByte := by kernel_rfl
 neB5 := by decide }
def Tryz.lays161_ren : Go.Shelf.Ren := ⟨fun | 161 => 66 | 231 => 86 | 227 => 88 | 233 => 89 | 235 => 91 | 228 => 133 | 197 => 134 | 151 => 135 | 260 => 158 | 152 => 159 | 137 => 69 | 119 => 180 | 224 => 181 | 225 => 182 | 217 => 125 | 266 => 152 | n => n, fun | 9 => 9 | 4 => 4 | 3 => 3 | 5 => 5 | 117 => 100 | 116 => 99 | 0 => 0 | 124 => 103 | 105 => 125 | 21 => 21 | 119 => 145 | 46 => 146 | 139 => 149 | 138 => 148 | n => n, fun | 3 => 1 | 4 => 2 | n => n⟩
theorem Tryz.lays161 : Go.Proofs.Lays.n161 Tryz.prog Tryz.lays161_ren := {
 mixed := by kernel_rfl
 f119 := Tryz.func180.trans (congrArg some (by kernel_rfl))
 f137 := Tryz.func69.trans (congrArg some (by kernel_rfl))
 f151 := Tryz.func135.trans (congrArg some (by kernel_rfl))
 f152 := Tryz.func159.trans (congrArg some (by kernel_rfl))
 f161 := Tryz.func66.trans (congrArg some (by kernel_rfl))
 f197 := Tryz.func134.trans (congrArg some (by kernel_rfl))
 f217 := Tryz.func125.trans (congrArg some (by kernel_rfl))
 f224 := Tryz.func181.trans (congrArg some (by kernel_rfl))
 f225 := Tryz.func182.trans (congrArg some (by kernel_rfl))
 f227 := Tryz.func88.trans (congrArg some (by kernel_rfl))
 f228 := Tryz.func133.trans (congrArg some (by kernel_rfl))
 f231 := Tryz.func86.trans (congrArg some (by kernel_rfl))
 f233 := Tryz.func89.trans (congrArg some (by kernel_rfl))
 f235 := Tryz.func91.trans (congrArg some (by kernel_rfl))
 f260 := Tryz.func158.trans (congrArg some (by kernel_rfl))
 f266 := Tryz.func152.trans (congrArg some (by kernel_rfl))
 t0 := Tryz.underlying0
 a0 := Tryz.isAgg0
 z0 := Tryz.sizeOf0
 v0 := Tryz.zeroValue0
 t3 := Tryz.underlying3
 a3 := Tryz.isAgg3
 z3 := Tryz.sizeOf3
 v3 := Tryz.zeroValue3
 t4 := Tryz.underlying4
 a4 := Tryz.isAgg4
 z4 := Tryz.sizeOf4
 v4 := Tryz.zeroValue4
 t5 := Tryz.underlying5
 a5 := Tryz.isAgg5
 z5 := Tryz.sizeOf5
 v5 := Tryz.zeroValue5
 t9 := Tryz.underlying9
 a9 := Tryz.isAgg9
 z9 := Tryz.sizeOf9
 v9 := Tryz.zeroValue9
 t21 := Tryz.underlying21
 a21 := Tryz.isAgg21
 z21 := Tryz.sizeOf21
 v21 := Tryz.zeroValue21
 t46 := Tryz.underlying146
 a46 := Tryz.isAgg146
 z46 := Tryz.sizeOf146
 v46 := Tryz.zeroValue146
 t105 := Tryz.underlying125
 a105 := Tryz.isAgg125
 z105 := Tryz.sizeOf125
 v105 := Tryz.zeroValue125
 t116 := Tryz.underlying99
 a116 := Tryz.isAgg99
 z116 := Tryz.sizeOf99
 t117 := Tryz.underlying100
 a117 := Tryz.isAgg100
 z117 := Tryz.sizeOf100
 v117 := Tryz.zeroValue100
 t119 := Tryz.underlying145
 a119 := Tryz.isAgg145
 z119 := Tryz.sizeOf145
 t124 := Tryz.underlying103
 a124 := Tryz.isAgg103
 z124 := Tryz.sizeOf103
 v124 := Tryz.zeroValue103
 t138 := Tryz.underlying148
 a138 := Tryz.isAgg148
 z138 := Tryz.sizeOf148
 v138 := Tryz.zeroValue148
 t139 := Tryz.underlying149
 a139 := Tryz.isAgg149
 z139 := Tryz.sizeOf149
 v139 := Tryz.zeroValue149
 g3 := by kernel_rfl
 g4 := by kernel_rfl }
def Tryz.lays160_ren : Go.Shelf.Ren := ⟨fun | 160 => 49 | 232 => 87 | 231 => 86 | 227 => 88 | 234 => 90 | 233 => 89 | 236 => 92 | 235 => 91 | 228 => 133 | 271 => 136 | 151 => 135 | 197 => 134 | 120 => 160 | 152 => 159 | 260 => 158 | 137 => 69 | 119 => 180 | 224 => 181 | 225 => 182 | 217 => 125 | 266 => 152 | n => n, fun | 9 => 9 | 4 => 4 | 3 => 3 | 5 => 5 | 117 => 100 | 116 => 99 | 0 => 0 | 124 => 103 | 21 => 21 | 105 => 125 | 46 => 146 | 119 => 145 | 139 => 149 | 138 => 148 | n => n, fun | 3 => 1 | 4 => 2 | n => n⟩
theorem Tryz.lays160 : Go.Proofs.Lays.n160 Tryz.prog Tryz.lays160_ren := {
 mixed := by kernel_rfl
 f119 := Tryz.func180.trans (congrArg some (by kernel_rfl))
 f120 := Tryz.func160.trans (congrArg some (by kernel_rfl))
 f137 := Tryz.func69.trans (congrArg some (by kernel_rfl))
 f151 := Tryz.func135.trans (congrArg some (by kernel_rfl))
 f152 := Tryz.func159.trans (congrArg some (by kernel_rfl))
 f160 := Tryz.func49.trans (congrArg some (by kernel_rfl))
 f197 := Tryz.func134.trans (congrArg some (by kernel_rfl))
 f217 := Tryz.func125.trans (congrArg some (by kernel_rfl))
 f224 := Tryz.func181.trans (congrArg some (by kernel_rfl))
 f225 := Tryz.func182.trans (congrArg some (by kernel_rfl))
 f227 := Tryz.func88.trans (congrArg some (by kernel_rfl))
 f228 := Tryz.func133.trans (congrArg some (by kernel_rfl))
 f231 := Tryz.func86.trans (congrArg some (by kernel_rfl))
 f232 := Tryz.func87.trans (congrArg some (by kernel_rfl))
 f233 := Tryz.func89.trans (congrArg some (by kernel_rfl))
 f234 := Tryz.func90.trans (congrArg some (by kernel_rfl))
 f235 := Tryz.func91.trans (congrArg some (by kernel_rfl))
 f236 := Tryz.func92.trans (congrArg some (by kernel_rfl))
 f260 := Tryz.func158.trans (congrArg some (by kernel_rfl))
 f266 := Tryz.func152.trans (congrArg some (by kernel_rfl))
 f271 := Tryz.func136.trans (congrArg some (by kernel_rfl))
 t0 := Tryz.underlying0
 a0 := Tryz.isAgg0
 z0 := Tryz.sizeOf0
 v0 := Tryz.zeroValue0
 t3 := Tryz.underlying3
 a3 := Tryz.isAgg3
 z3 := Tryz.sizeOf3
 v3 := Tryz.zeroValue3
 t4 := Tryz.underlying4
 a4 := Tryz.isAgg4
 z4 := Tryz.sizeOf4
 v4 := Tryz.zeroValue4
 t5 := Tryz.underlying5
 a5 := Tryz.isAgg5
 z5 := Tryz.sizeOf5
 v5 := Tryz.zeroValue5
 t9 := Tryz.underlying9
 a9 := Tryz.isAgg9
 z9 := Tryz.sizeOf9
 v9 := Tryz.zeroValue9
 t21 := Tryz.underlying21
 a21 := Tryz.isAgg21
 z21 := Tryz.sizeOf21
 v21 := Tryz.zeroValue21
 t46 := Tryz.underlying146
 a46 := Tryz.isAgg146
 z46 := Tryz.sizeOf146
 v46 := Tryz.zeroValue146
 t105 := Tryz.underlying125
 a105 := Tryz.isAgg125
 z105 := Tryz.sizeOf125
 v105 := Tryz.zeroValue125
 t116 := Tryz.underlying99
 a116 := Tryz.isAgg99
 z116 := Tryz.sizeOf99
 t117 := Tryz.underlying100
 a117 := Tryz.isAgg100
 z117 := Tryz.sizeOf100
 v117 := Tryz.zeroValue100
 t119 := Tryz.underlying145
 a119 := Tryz.isAgg145
 z119 := Tryz.sizeOf145
 t124 := Tryz.underlying103
 a124 := Tryz.isAgg103
 z124 := Tryz.sizeOf103
 v124 := Tryz.zeroValue103
 t138 := Tryz.underlying148
 a138 := Tryz.isAgg148
 z138 := Tryz.sizeOf148
 v138 := Tryz.zeroValue148
 t139 := Tryz.underlying149
 a139 := Tryz.isAgg149
 z139 := Tryz.sizeOf149
 v139 := Tryz.zeroValue149
 g3 := by kernel_rfl
 g4 := by kernel_rfl }
def Tryz.lays137_ren : Go.Shelf.Ren := ⟨fun | 137 => 69 | 217 => 125 | 266 => 152 | n => n, fun | 9 => 9 | 5 => 5 | 3 => 3 | n => n, fun | n => n⟩
theorem Tryz.lays137 : Go.Proofs.Lays.n137 Tryz.prog Tryz.lays137_ren := {
 mixed := by kernel_rfl
 f137 := Tryz.func69.trans (congrArg some (by kernel_rfl))
 f217 := Tryz.func125.trans (congrArg some (by kernel_rfl))
 f266 := Tryz.func152.trans (congrArg some (by kernel_rfl))
 t3 := Tryz.underlying3
 a3 := Tryz.isAgg3
 z3 := Tryz.sizeOf3
 v3 := Tryz.zeroValue3
 t5 := Tryz.underlying5
 a5 := Tryz.isAgg5
 z5 := Tryz.sizeOf5
 v5 := Tryz.zeroValue5
 t9 := Tryz.underlying9
 a9 := Tryz.isAgg9
 z9 := Tryz.sizeOf9
 v9 := Tryz.zeroValue9 }
open Go.RowKit in
theorem Tryz.strings_IndexByte (s : ByteArray) (c : Int) (w : World) :
  Calls Tryz.prog 69 #[.string s, .int .u8 c] w fun e w' => e = .returned (.int .i64 (Lib.indexByte s.data.toList c.toNat.toUInt8)) ∧ w' = w := Any.strings_IndexByte Tryz.lays137 s c w
def Tryz.lays103_ren : Go.Shelf.Ren := ⟨fun | 103 => 93 | 210 => 137 | 206 => 124 | n => n, fun | 9 => 9 | 4 => 4 | 24 => 104 | 3 => 3 | n => n, fun | n => n⟩
theorem Tryz.lays103 : Go.Proofs.Lays.n103 Tryz.prog Tryz.lays103_ren := {
 mixed := by kernel_rfl
 f103 := Tryz.func93.trans (congrArg some (by kernel_rfl))
 f206 := Tryz.func124.trans (congrArg some (by kernel_rfl))
 f210 := Tryz.func137.trans (congrArg some (by kernel_rfl))
 t3 := Tryz.underlying3
 a3 := Tryz.isAgg3
 z3 := Tryz.sizeOf3
 v3 := Tryz.zeroValue3
 t4 := Tryz.underlying4
 a4 := Tryz.isAgg4
 z4 := Tryz.sizeOf4
 v4 := Tryz.zeroValue4
 t9 := Tryz.underlying9
 a9 := Tryz.isAgg9
 z9 := Tryz.sizeOf9
 v9 := Tryz.zeroValue9
 t24 := Tryz.underlying104
 a24 := Tryz.isAgg104
 z24 := Tryz.sizeOf104
 v24 := Tryz.zeroValue104 }
open Go.RowKit in
theorem Tryz.strings_CutPrefix (s p : ByteArray) (w : World) :
  Calls Tryz.prog 93 #[.string s, .string p] w fun e w' => e = .returned (.tuple #[.string ⟨(Lib.trimPrefix s.data.toList p.data.toList).toArray⟩, .bool (Lib.hasPrefix s.data.toList p.data.toList)]) ∧ w' = w := Any.strings_CutPrefix Tryz.lays103 s p w
open Go.RowKit in
theorem Tryz.Builder_String_any_f (B b : Nat) (l : List UInt8) (w : World) (h : Lib.IsBuilderF 66 5 B b (Lib.byteCells l) w) (hBw : B ≤ w.heap.size) :
  Calls Tryz.prog 48 #[.pointer (some ⟨b, 0, none⟩)] w fun e w' => e = .returned (.string ⟨l.toArray⟩) ∧ (Lib.IsBuilderF 66 5 B b (Lib.byteCells l) w' ∧ Below B w w') := Any.Builder_String_any_f Tryz.lays169 Tryz.Builder_Extra_169 B b l w h hBw
def Tryz.lays172_ren : Go.Shelf.Ren := ⟨fun | 172 => 139 | 244 => 162 | 245 => 163 | 247 => 184 | 279 => 185 | 280 => 186 | 281 => 187 | 282 => 188 | 287 => 202 | 316 => 203 | 171 => 132 | 205 => 204 | 321 => 211 | 322 => 212 | 243 => 157 | 246 => 179 | 283 => 197 | 284 => 198 | 285 => 199 | 286 => 200 | 129 => 207 | 317 => 206 | 318 => 208 | 319 => 209 | 320 => 210 | 337 => 213 | 338 => 214 | n => n, fun | 9 => 9 | 3 => 3 | 75 => 92 | 76 => 93 | 4 => 4 | 5 => 5 | 167 => 152 | 37 => 64 | 0 => 0 | 85 => 153 | 2 => 2 | 168 => 155 | 53 => 61 | 175 => 166 | 46 => 146 | 210 => 169 | 127 => 96 | 145 => 180 | 143 => 178 | 21 => 21 | 171 => 158 | 173 => 161 | 212 => 173 | 51 => 163 | 20 => 20 | 213 => 174 | 232 => 182 | 233 => 183 | 80 => 68 | n => n, fun | 15 => 3 | 16 => 4 | 17 => 5 | 18 => 6 | 19 => 7 | n => n⟩
theorem Tryz.lays172 : Go.Proofs.Lays.n172 Tryz.prog Tryz.lays172_ren := {
 mixed := by kernel_rfl
 f129 := Tryz.func207.trans (congrArg some (by kernel_rfl))
 f171 := Tryz.func132.trans (congrArg some (by kernel_rfl))
 f172 := Tryz.func139.trans (congrArg some (by kernel_rfl))
 f205 := Tryz.func204.trans (congrArg some (by kernel_rfl))
 f243 := Tryz.func157.trans (congrArg some (by kernel_rfl))
 f244 := Tryz.func162.trans (congrArg some (by kernel_rfl))
 f245 := Tryz.func163.trans (congrArg some (by kernel_rfl))
 f246 := Tryz.func179.trans (congrArg some (by kernel_rfl))
 f247 := Tryz.func184.trans (congrArg some (by kernel_rfl))
 f279 := Tryz.func185.trans (congrArg some (by kernel_rfl))
 f280 := Tryz.func186.trans (congrArg some (by kernel_rfl))
 f281 := Tryz.func187.trans (congrArg some (by kernel_rfl))
 f282 := Tryz.func188.trans (congrArg some (by kernel_rfl))
 f283 := Tryz.func197.trans (congrArg some (by kernel_rfl))
 f284 := Tryz.func198.trans (congrArg some (by kernel_rfl))
 f285 := Tryz.func199.trans (congrArg some (by kernel_rfl))
 f286 := Tryz.func200.trans (congrArg some (by kernel_rfl))
 f287 := Tryz.func202.trans (congrArg some (by kernel_rfl))
 f316 := Tryz.func203.trans (congrArg some (by kernel_rfl))
 f317 := Tryz.func206.trans (congrArg some (by kernel_rfl))
 f318 := Tryz.func208.trans (congrArg some (by kernel_rfl))
 f319 := Tryz.func209.trans (congrArg some (by kernel_rfl))
 f320 := Tryz.func210.trans (congrArg some (by kernel_rfl))
 f321 := Tryz.func211.trans (congrArg some (by kernel_rfl))
 f322 := Tryz.func212.trans (congrArg some (by kernel_rfl))
 f337 := Tryz.func213.trans (congrArg some (by kernel_rfl))
 f338 := Tryz.func214.trans (congrArg some (by kernel_rfl))
 t0 := Tryz.underlying0
 a0 := Tryz.isAgg0
 z0 := Tryz.sizeOf0
 v0 := Tryz.zeroValue0
 t2 := Tryz.underlying2
 a2 := Tryz.isAgg2
 z2 := Tryz.sizeOf2
 v2 := Tryz.zeroValue2
 t3 := Tryz.underlying3
 a3 := Tryz.isAgg3
 z3 := Tryz.sizeOf3
 v3 := Tryz.zeroValue3
 t4 := Tryz.underlying4
 a4 := Tryz.isAgg4
 z4 := Tryz.sizeOf4
 v4 := Tryz.zeroValue4
 t5 := Tryz.underlying5
 a5 := Tryz.isAgg5
 z5 := Tryz.sizeOf5
 v5 := Tryz.zeroValue5
 t9 := Tryz.underlying9
 a9 := Tryz.isAgg9
 z9 := Tryz.sizeOf9
 v9 := Tryz.zeroValue9
 t20 := Tryz.underlying20
 a20 := Tryz.isAgg20
 z20 := Tryz.sizeOf20
 v20 := Tryz.zeroValue20
 t21 := Tryz.underlying21
 a21 := Tryz.isAgg21
 z21 := Tryz.sizeOf21
 v21 := Tryz.zeroValue21
 t37 := Tryz.underlying64
 a37 := Tryz.isAgg64
 z37 := Tryz.sizeOf64
 v37 := Tryz.zeroValue64
 t46 := Tryz.underlying146
 a46 := Tryz.isAgg146
 z46 := Tryz.sizeOf146
 v46 := Tryz.zeroValue146
 t51 := Tryz.underlying163
 a51 := Tryz.isAgg163
 z51 := Tryz.sizeOf163
 v51 := Tryz.zeroValue163
 t53 := Tryz.underlying61
 a53 := Tryz.isAgg61
 z53 := Tryz.sizeOf61
 v53 := Tryz.zeroValue61
 t75 := Tryz.underlying92
 a75 := Tryz.isAgg92
 z75 := Tryz.sizeOf92
 v75 := Tryz.zeroValue92
 t76 := Tryz.underlying93
 a76 := Tryz.isAgg93
 z76 := Tryz.sizeOf93
 v76 := Tryz.zeroValue93
 t85 := Tryz.underlying153
 a85 := Tryz.isAgg153
 z85 := Tryz.sizeOf153
 v85 := Tryz.zeroValue153
 t127 := Tryz.underlying96
 a127 := Tryz.isAgg96
 z127 := Tryz.sizeOf96
 v127 := Tryz.zeroValue96
 t143 := Tryz.underlying178
 a143 := Tryz.isAgg178
 z143 := Tryz.sizeOf178
 v143 := Tryz.zeroValue178
 t145 := Tryz.underlying180
 a145 := Tryz.isAgg180
 z145 := Tryz.sizeOf180
 v145 := Tryz.zeroValue180
 t167 := Tryz.underlying152
 a167 := Tryz.isAgg152
 z167 := Tryz.sizeOf152
 v167 := Tryz.zeroValue152
 t168 := Tryz.underlying155
 a168 := Tryz.isAgg155
 z168 := Tryz.sizeOf155
 v168 := Tryz.zeroValue155
 t171 := Tryz.underlying158
 a171 := Tryz.isAgg158
 z171 := Tryz.sizeOf158
 v171 := Tryz.zeroValue158
 t173 := Tryz.underlying161
 a173 := Tryz.isAgg161
 z173 := Tryz.sizeOf161
 v173 := Tryz.zeroValue161
 t175 := Tryz.underlying166
 a175 := Tryz.isAgg166
 z175 := Tryz.sizeOf166
 v175 := Tryz.zeroValue166
 t210 := Tryz.underlying169
 a210 := Tryz.isAgg169
 z210 := Tryz.sizeOf169
 v210 := Tryz.zeroValue169
 t212 := Tryz.underlying173
 a212 := Tryz.isAgg173
 z212 := Tryz.sizeOf173
 v212 := Tryz.zeroValue173
 t213 := Tryz.underlying174
 a213 := Tryz.isAgg174
 z213 := Tryz.sizeOf174
 t232 := Tryz.underlying182
 a232 := Tryz.isAgg182
 z232 := Tryz.sizeOf182
 v232 := Tryz.zeroValue182
 t233 := Tryz.underlying183
 a233 := Tryz.isAgg183
 z233 := Tryz.sizeOf183
 v233 := Tryz.zeroValue183
 g15 := by kernel_rfl
 g16 := by kernel_rfl
 g17 := by kernel_rfl
 g18 := by kernel_rfl
 g19 := by kernel_rfl }
open Go.RowKit in
theorem Tryz.strconv_Atoi (s : ByteArray) (n : Int) (hl : s.size ≤ 18) (h : Lib.atoi s.data.toList = some n) (w : World) :
  Calls Tryz.prog 139 #[.string s] w fun e w' => e = .returned (.tuple #[.int .i64 n, .nilIface]) ∧ ∃ t, w' = Lib.bytesWorld w 5 t := Any.strconv_Atoi Tryz.lays172 s n hl h w
def Tryz.laysM171_ren : Go.Shelf.Ren := ⟨fun | 171 => 132 | 243 => 157 | 246 => 179 | 283 => 197 | 284 => 198 | 285 => 199 | 286 => 200 | 129 => 207 | 317 => 206 | 318 => 208 | 319 => 209 | 320 => 210 | 337 => 213 | 338 => 214 | n => n, fun | 3 => 3 | 9 => 9 | 2 => 2 | 4 => 4 | 171 => 158 | 0 => 0 | 53 => 61 | 37 => 64 | 5 => 5 | 173 => 161 | 212 => 173 | 51 => 163 | 20 => 20 | 213 => 174 | 46 => 146 | 232 => 182 | 233 => 183 | n => n, fun | 17 => 5 | 18 => 6 | 19 => 7 | n => n⟩
theorem Tryz.laysM171 : Go.Proofs.LaysM.n171 Tryz.prog Tryz.laysM171_ren := {
 mixed := by kernel_rfl
 f129 := Tryz.func207.trans (congrArg some (by kernel_rfl))
 f171 := Tryz.func132.trans (congrArg some (by kernel_rfl))
 f243 := Tryz.func157.trans (congrArg some (by kernel_rfl))
 f246 := Tryz.func179.trans (congrArg some (by kernel_rfl))
 f283 := Tryz.func197.trans (congrArg some (by kernel_rfl))
 f284 := Tryz.func198.trans (congrArg some (by kernel_rfl))
 f285 := Tryz.func199.trans (congrArg some (by kernel_rfl))
 f286 := Tryz.func200.trans (congrArg some (by kernel_rfl))
 f317 := Tryz.func206.trans (congrArg some (by kernel_rfl))
 f318 := Tryz.func208.trans (congrArg some (by kernel_rfl))
 f319 := Tryz.func209.trans (congrArg some (by kernel_rfl))
 f320 := Tryz.func210.trans (congrArg some (by kernel_rfl))
 f337 := Tryz.func213.trans (congrArg some (by kernel_rfl))
 f338 := Tryz.func214.trans (congrArg some (by kernel_rfl))
 t0 := Tryz.underlying0
 a0 := Tryz.isAgg0
 z0 := Tryz.sizeOf0
 v0 := Tryz.zeroValue0
 t2 := Tryz.underlying2
 a2 := Tryz.isAgg2
 z2 := Tryz.sizeOf2
 v2 := Tryz.zeroValue2
 t3 := Tryz.underlying3
 a3 := Tryz.isAgg3
 z3 := Tryz.sizeOf3
 v3 := Tryz.zeroValue3
 t4 := Tryz.underlying4
 a4 := Tryz.isAgg4
 z4 := Tryz.sizeOf4
 v4 := Tryz.zeroValue4
 t5 := Tryz.underlying5
 a5 := Tryz.isAgg5
 z5 := Tryz.sizeOf5
 v5 := Tryz.zeroValue5
 t9 := Tryz.underlying9
 a9 := Tryz.isAgg9
 z9 := Tryz.sizeOf9
 v9 := Tryz.zeroValue9
 t20 := Tryz.underlying20
 a20 := Tryz.isAgg20
 z20 := Tryz.sizeOf20
 v20 := Tryz.zeroValue20
 t37 := Tryz.underlying64
 a37 := Tryz.isAgg64
 z37 := Tryz.sizeOf64
 v37 := Tryz.zeroValue64
 t46 := Tryz.underlying146
 a46 := Tryz.isAgg146
 z46 := Tryz.sizeOf146
 v46 := Tryz.zeroValue146
 t51 := Tryz.underlying163
 a51 := Tryz.isAgg163
 z51 := Tryz.sizeOf163
 v51 := Tryz.zeroValue163
 t53 := Tryz.underlying61
 a53 := Tryz.isAgg61
 z53 := Tryz.sizeOf61
 v53 := Tryz.zeroValue61
 t171 := Tryz.underlying158
 a171 := Tryz.isAgg158
 z171 := Tryz.sizeOf158
 v171 := Tryz.zeroValue158
 t173 := Tryz.underlying161
 a173 := Tryz.isAgg161
 z173 := Tryz.sizeOf161
 v173 := Tryz.zeroValue161
 t212 := Tryz.underlying173
 a212 := Tryz.isAgg173
 z212 := Tryz.sizeOf173
 v212 := Tryz.zeroValue173
 t213 := Tryz.underlying174
 a213 := Tryz.isAgg174
 z213 := Tryz.sizeOf174
 t232 := Tryz.underlying182
 a232 := Tryz.isAgg182
 z232 := Tryz.sizeOf182
 v232 := Tryz.zeroValue182
 t233 := Tryz.underlying183
 a233 := Tryz.isAgg183
 z233 := Tryz.sizeOf183
 v233 := Tryz.zeroValue183
 g17 := by kernel_rfl
 g18 := by kernel_rfl
 g19 := by kernel_rfl
 i0 := by kernel_rfl
 i2 := by kernel_rfl
 i3 := by kernel_rfl
 i4 := by kernel_rfl
 i5 := by kernel_rfl
 i9 := by kernel_rfl
 i20 := by kernel_rfl
 i37 := by kernel_rfl
 i46 := by kernel_rfl
 i51 := by kernel_rfl
 i53 := by kernel_rfl
 i171 := by kernel_rfl
 i173 := by kernel_rfl
 i212 := by kernel_rfl
 i232 := by kernel_rfl
 i233 := by kernel_rfl
 m17 := by kernel_rfl
 m18 := by kernel_rfl
 m19 := by kernel_rfl }
open Go.RowKit Go.Sort Go.Lib in
theorem Tryz.strconv_Itoa (n : Int) (h0 : -9223372036854775808 ≤ n) (h1 : n ≤ 9223372036854775807) (w : World) (htab : Lib.TabIs Tryz.prog w "internal/strconv.uint64pow10" .u64 Lib.pow10Tab) :
  Calls Tryz.prog 132 #[.int .i64 n] w fun e w' => e = .returned (.string ⟨(Lib.itoa n).toArray⟩) ∧ ∃ k os, w' = grow (w.drewN k) os := Any.strconv_Itoa Tryz.laysM171 n h0 h1 w htab
def Tryz.lays219_ren : Go.Shelf.Ren := ⟨fun | 219 => 161 | 217 => 125 | 225 => 182 | 224 => 181 | 267 => 183 | 266 => 152 | 314 => 201 | n => n, fun | 9 => 9 | 3 => 3 | 4 => 4 | 5 => 5 | 46 => 146 | 146 => 164 | 51 => 163 | n => n, fun | 1 => 0 | n => n⟩
theorem Tryz.lays219 : Go.Proofs.Lays.n219 Tryz.prog Tryz.lays219_ren := {
 mixed := by kernel_rfl
 f217 := Tryz.func125.trans (congrArg some (by kernel_rfl))
 f219 := Tryz.func161.trans (congrArg some (by kernel_rfl))
 f224 := Tryz.func181.trans (congrArg some (by kernel_rfl))
 f225 := Tryz.func182.trans (congrArg some (by kernel_rfl))
 f266 := Tryz.func152.trans (congrArg some (by kernel_rfl))
 f267 := Tryz.func183.trans (congrArg some (by kernel_rfl))
 f314 := Tryz.func201.trans (congrArg some (by kernel_rfl))
 t3 := Tryz.underlying3
 a3 := Tryz.isAgg3
 z3 := Tryz.sizeOf3
 v3 := Tryz.zeroValue3
 t4 := Tryz.underlying4
 a4 := Tryz.isAgg4
 z4 := Tryz.sizeOf4
 v4 := Tryz.zeroValue4
 t5 := Tryz.underlying5
 a5 := Tryz.isAgg5
 z5 := Tryz.sizeOf5
 v5 := Tryz.zeroValue5
 t9 := Tryz.underlying9
 a9 := Tryz.isAgg9
 z9 := Tryz.sizeOf9
 v9 := Tryz.zeroValue9
 t46 := Tryz.underlying146
 a46 := Tryz.isAgg146
 z46 := Tryz.sizeOf146
 v46 := Tryz.zeroValue146
 t51 := Tryz.underlying163
 a51 := Tryz.isAgg163
 z51 := Tryz.sizeOf163
 v51 := Tryz.zeroValue163
 t146 := Tryz.underlying164
 a146 := Tryz.isAgg164
 z146 := Tryz.sizeOf164
 v146 := Tryz.zeroValue164
 g1 := by kernel_rfl }
open Go.RowKit Go.Lib in
theorem Tryz.stringslite_Index_one (s : ByteArray) (c : UInt8) (w : World) :
  Calls Tryz.prog 161 #[.string s, .string ⟨#[c]⟩] w fun e w' => e = .returned (.int .i64 (Lib.indexByte s.data.toList c)) ∧ w' = w := Any.stringslite_Index_one Tryz.lays219 s c w
def Tryz.lays99_ren : Go.Shelf.Ren := ⟨fun | 99 => 68 | 206 => 124 | n => n, fun | 9 => 9 | 4 => 4 | 3 => 3 | n => n, fun | n => n⟩
theorem Tryz.lays99 : Go.Proofs.Lays.n99 Tryz.prog Tryz.lays99_ren := {
 mixed := by kernel_rfl
 f99 := Tryz.func68.trans (congrArg some (by kernel_rfl))
 f206 := Tryz.func124.trans (congrArg some (by kernel_rfl))
 t3 := Tryz.underlying3
 a3 := Tryz.isAgg3
 z3 := Tryz.sizeOf3
 v3 := Tryz.zeroValue3
 t4 := Tryz.underlying4
 a4 := Tryz.isAgg4
 z4 := Tryz.sizeOf4
 v4 := Tryz.zeroValue4
 t9 := Tryz.underlying9
 a9 := Tryz.isAgg9
 z9 := Tryz.sizeOf9
 v9 := Tryz.zeroValue9 }
open Go.RowKit Go.Lib in
theorem Tryz.strings_HasPrefix (s p : ByteArray) (w : World) :
  Calls Tryz.prog 68 #[.string s, .string p] w fun e w' => e = .returned (.bool (Lib.hasPrefix s.data.toList p.data.toList)) ∧ w' = w := Any.strings_HasPrefix Tryz.lays99 s p w
end Go.Proofs
namespace Go.Proofs.YtpcneeekmhdhgaaGreatDoor
section
namespace Num
def mk (n d : Int) : Int × Int × Int :=
 if d = 0 then (0, 0, 4) else
 if 2147483647 < n.natAbs / Int.gcd n d ∨ 2147483647 < d.natAbs / Int.gcd n d then (0, 0, 3) else
 if n < 0 ↔ d < 0 then (((n.natAbs / Int.gcd n d : Nat) : Int), ((d.natAbs / Int.gcd n d : Nat) : Int), 0)
 else (-((n.natAbs / Int.gcd n d : Nat) : Int), ((d.natAbs / Int.gcd n d : Nat) : Int), 0)
def right (n d : Int) : Bool :=
 decide (1 ≤ d) && (decide (d ≤ 2147483647) && (decide (-2147483647 ≤ n) && (decide (n ≤ 2147483647) && (Int.gcd n d == 1))))
theorem right_iff (n d : Int) : right n d = true ↔ 1 ≤ d ∧ d ≤ 2147483647 ∧ -2147483647 ≤ n ∧ n ≤ 2147483647 ∧ Int.gcd n d = 1 := by
 simp [right]
theorem gcd_ne {n d : Int} (hd : d ≠ 0) : Int.gcd n d ≠ 0 := by
 intro h
 rw [Int.gcd_eq_zero_iff] at h
 exact hd h.2
end Num
end
section
namespace Num
def ofQ (q : Rat) : Int × Int × Int := if q.num.natAbs ≤ 2147483647 ∧ q.den ≤ 2147483647 then (q.num, (q.den : Int), 0) else (0, 0, 3)
theorem mk_eq {n d : Int} (hd : d ≠ 0) : mk n d = ofQ (Rat.divInt n d) := by
 have hg : Int.gcd n d ≠ 0 := gcd_ne hd
 have hdn : Int.gcd n d ∣ n.natAbs := Int.ofNat_dvd_left.1 (Int.gcd_dvd_left ..)
 have hnum : (Rat.divInt n d).num = if n < 0 ↔ d < 0 then ((n.natAbs / Int.gcd n d : Nat) : Int) else -((n.natAbs / Int.gcd n d : Nat) : Int) := by
  rw [Rat.num_divInt, Int.gcd_comm d n]
  obtain ⟨k, hk⟩ := hdn
  have hk' : n.natAbs / Int.gcd n d = k := by rw [hk]; exact Nat.mul_div_cancel_left _ (by omega)
  rw [hk']
  have e : d.sign * n = if n < 0 ↔ d < 0 then (n.natAbs : Int) else -(n.natAbs : Int) := by
   rcases Int.lt_trichotomy d 0 with h | h | h
   ·rw [Int.sign_eq_neg_one_of_neg h]; split <;> omega
   ·exact absurd h hd
   ·rw [Int.sign_eq_one_of_pos h]; split <;> omega
  rw [e, hk]
  have hz : ((Int.gcd n d : Nat) : Int) ≠ 0 := by omega
  split
  ·rw [Int.natCast_mul]; exact Int.mul_ediv_cancel_left _ hz
  ·rw [Int.natCast_mul, ← Int.mul_neg]; exact Int.mul_ediv_cancel_left _ hz
 have hden : (Rat.divInt n d).den = d.natAbs / Int.gcd n d := by
  rw [Rat.den_divInt, if_neg hd, Int.gcd_comm]
 unfold mk ofQ
 rw [if_neg hd, hnum, hden]
 generalize n.natAbs / Int.gcd n d = A
 generalize d.natAbs / Int.gcd n d = B
 have e2 : (if n < 0 ↔ d < 0 then (A : Int) else -(A : Int)).natAbs = A := by
  split <;> simp
 rw [e2]
 have e3 : (A ≤ 2147483647 ∧ B ≤ 2147483647) ↔ ¬ (2147483647 < A ∨ 2147483647 < B) := by omega
 by_cases h : 2147483647 < A ∨ 2147483647 < B <;> by_cases h2 : n < 0 ↔ d < 0 <;> simp only [e3, h, h2, not_true_eq_false, not_false_eq_true, if_true, if_false]
theorem right_q {n d : Int} (h : right n d = true) : (Rat.divInt n d).num = n ∧ ((Rat.divInt n d).den : Int) = d := by
 rw [right_iff] at h
 obtain ⟨h1, h2, h3, h4, h5⟩ := h
 constructor
 ·rw [Rat.num_divInt, Int.gcd_comm, h5, Int.sign_eq_one_of_pos (by omega)]; simp
 ·rw [Rat.den_divInt, if_neg (by omega), Int.gcd_comm, h5]; omega
theorem right_ne {n d : Int} (h : right n d = true) : d ≠ 0 := by
 rw [right_iff] at h; omega
theorem ofQ_right {n d : Int} (h : right n d = true) : ofQ (Rat.divInt n d) = (n, d, 0) := by
 have a := right_q h
 have b := h
 rw [right_iff] at b
 unfold ofQ
 rw [if_pos (by rw [a.1]; omega), a.1, a.2]
end Num
end
section
namespace Num
open Go
def text (n d : Int) : List UInt8 :=
 if right n d then Lib.itoa n ++ (if d = 1 then [] else 47 :: Lib.itoa d) else []
def nat? (l : List UInt8) : Option Nat := if l.length ≤ 10 then Lib.decNat l else none
def noSlash (b : UInt8) : Bool := b != 47
def lower (l : List UInt8) : List UInt8 := match l.dropWhile noSlash with | [] => [49] | _ :: t => t
def parseU (neg : Bool) (l : List UInt8) : Int × Int × Bool :=
 match nat? (l.takeWhile noSlash), nat? (lower l) with
 | some n, some d => ((mk (if neg then -(n : Int) else n) d).1, (mk (if neg then -(n : Int) else n) d).2.1, decide ((mk (if neg then -(n : Int) else n) d).2.2 = 0))
 | _, _ => (0, 0, false)
def parse (l : List UInt8) : Int × Int × Bool :=
 match l with
 | 45 :: r => parseU true r
 | r => parseU false r
theorem digitVal_digit (k : Nat) (h : k < 10) : Lib.digitVal (UInt8.ofNat (48 + k)) = some k := by
 unfold Lib.digitVal
 have : (UInt8.ofNat (48 + k)).toNat = 48 + k := by simp; omega
 rw [this, if_pos (by omega)]
 congr 1
 omega
theorem decFrom_append : ∀ (l : List UInt8) (acc m : Nat) (b : UInt8) (d : Nat), Lib.decFrom acc l = some m → Lib.digitVal b = some d → Lib.decFrom acc (l ++ [b]) = some (m * 10 + d)
 | [], acc, m, b, d, h, hd => by
  simp only [Lib.decFrom, Option.some.injEq] at h
  subst h
  simp [Lib.decFrom, hd]
 | c :: l, acc, m, b, d, h, hd => by
  simp only [Lib.decFrom, List.cons_append] at h ⊢
  cases hc : Lib.digitVal c with
  | none => rw [hc] at h; cases h
  | some e =>
   rw [hc] at h
   exact decFrom_append l _ m b d h hd
theorem decFrom_decDigits (u : Nat) : Lib.decFrom 0 (Lib.decDigits u) = some u := by
 induction u using Nat.strongRecOn with
 | ind u ih =>
  rw [Lib.decDigits]
  split
  ·rename_i h
   show (match Lib.digitVal (UInt8.ofNat (48 + u)) with | some d => Lib.decFrom (0 * 10 + d) [] | none => none) = some u
   rw [digitVal_digit u h]
   simp [Lib.decFrom]
  ·rename_i h
   rw [decFrom_append _ _ _ _ _ (ih (u / 10) (by omega)) (digitVal_digit (u % 10) (by omega))]
   congr 1
   omega
theorem decDigits_ne (u : Nat) : Lib.decDigits u ≠ [] := by
 rw [Lib.decDigits]; split <;> simp
theorem decNat_decDigits (u : Nat) : Lib.decNat (Lib.decDigits u) = some u := by
 unfold Lib.decNat
 rw [if_neg (by simpa using decDigits_ne u), decFrom_decDigits]
theorem decDigits_len (u : Nat) (h : u < 10000000000) : (Lib.decDigits u).length ≤ 10 := by
 rw [Lib.decDigits_length]
 have : ∀ (k u : Nat), u < 10 ^ (k + 1) → Lib.nDigits u ≤ k + 1 := by
  intro k
  induction k with
  | zero => intro u h; rw [Lib.nDigits_small (by simpa using h)]; omega
  | succ k ih =>
   intro u h
   by_cases hs : u < 10
   ·rw [Lib.nDigits_small hs]; omega
   ·rw [Lib.nDigits_big hs]
    have := ih (u / 10) (by rw [Nat.pow_succ] at h; omega)
    omega
 exact this 9 u (by simpa using h)
theorem nat?_decDigits (u : Nat) (h : u < 10000000000) : nat? (Lib.decDigits u) = some u := by
 unfold nat?
 rw [if_pos (decDigits_len u h), decNat_decDigits]
def isDigit (b : UInt8) : Bool := decide (48 ≤ b.toNat) && decide (b.toNat ≤ 57)
theorem decDigits_digit (u : Nat) : ∀ b ∈ Lib.decDigits u, isDigit b = true := by
 induction u using Nat.strongRecOn with
 | ind u ih =>
  intro b hb
  rw [Lib.decDigits] at hb
  split at hb
  ·rename_i h
   simp only [List.mem_singleton] at hb
   subst hb
   have : (UInt8.ofNat (48 + u)).toNat = 48 + u := by simp; omega
   simp only [isDigit, this, Bool.and_eq_true, decide_eq_true_eq]; omega
  ·rename_i h
   rw [List.mem_append] at hb
   rcases hb with hb | hb
   ·exact ih (u / 10) (by omega) b hb
   ·simp only [List.mem_singleton] at hb
    subst hb
    have : (UInt8.ofNat (48 + u % 10)).toNat = 48 + u % 10 := by simp; omega
    simp only [isDigit, this, Bool.and_eq_true, decide_eq_true_eq]; omega
theorem noSlash_of_digit {b : UInt8} (h : isDigit b = true) : noSlash b = true := by
 simp only [isDigit, Bool.and_eq_true, decide_eq_true_eq] at h
 simp only [noSlash, bne_iff_ne, ne_eq]
 rintro rfl
 simp at h
theorem takeWhile_all {l r : List UInt8} (h : ∀ b ∈ l, noSlash b = true) : (l ++ 47 :: r).takeWhile noSlash = l ∧ (l ++ 47 :: r).dropWhile noSlash = 47 :: r := by
 induction l with
 | nil => simp [noSlash]
 | cons c l ih =>
  have hc := h c (by simp)
  have := ih (fun b hb => h b (by simp [hb]))
  simp [hc, this]
theorem takeWhile_only {l : List UInt8} (h : ∀ b ∈ l, noSlash b = true) : l.takeWhile noSlash = l ∧ l.dropWhile noSlash = [] := by
 induction l with
 | nil => simp
 | cons c l ih =>
  have hc := h c (by simp)
  have := ih (fun b hb => h b (by simp [hb]))
  simp [hc, this]
theorem itoa_nat {d : Int} (h : 0 ≤ d) : Lib.itoa d = Lib.decDigits d.toNat := by
 unfold Lib.itoa; rw [if_neg (by omega)]
theorem parseU_text (neg : Bool) (u : Nat) (d : Int) (hu : u < 10000000000) (hd : 1 ≤ d) (hd2 : d < 10000000000) :
  parseU neg (Lib.decDigits u ++ (if d = 1 then [] else 47 :: Lib.itoa d)) = ((mk (if neg then -(u : Int) else u) d).1, (mk (if neg then -(u : Int) else u) d).2.1, decide ((mk (if neg then -(u : Int) else u) d).2.2 = 0)) := by
 have hns : ∀ b ∈ Lib.decDigits u, noSlash b = true := fun b hb => noSlash_of_digit (decDigits_digit u b hb)
 by_cases h1 : d = 1
 ·subst h1
  simp only [if_true, List.append_nil, parseU, lower, takeWhile_only hns, nat?_decDigits u hu]
  have : nat? [49] = some 1 := by rfl
  rw [this]
  rfl
 ·simp only [h1, if_false, parseU, lower, takeWhile_all hns, nat?_decDigits u hu]
  rw [itoa_nat (by omega), nat?_decDigits d.toNat (by omega)]
  simp only []
  rw [Int.toNat_of_nonneg (by omega)]
theorem parse_text {n d : Int} (h : right n d = true) : parse (text n d) = (n, d, true) := by
 have hb := h
 rw [right_iff] at hb
 have hmk : mk n d = (n, d, 0) := by rw [mk_eq (right_ne h), ofQ_right h]
 unfold text
 rw [if_pos h]
 by_cases hn : n < 0
 ·have e : Lib.itoa n = 45 :: Lib.decDigits n.natAbs := by unfold Lib.itoa; rw [if_pos hn]
  rw [e]
  show parseU true (Lib.decDigits n.natAbs ++ _) = _
  rw [parseU_text true _ _ (by omega) (by omega) (by omega)]
  have e2 : (if true = true then -(n.natAbs : Int) else (n.natAbs : Int)) = n := by simp; omega
  rw [e2, hmk]
  rfl
 ·rw [itoa_nat (by omega)]
  have hp : parse (Lib.decDigits n.toNat ++ if d = 1 then [] else 47 :: Lib.itoa d) = parseU false (Lib.decDigits n.toNat ++ if d = 1 then [] else 47 :: Lib.itoa d) := by
   have hd := decDigits_digit n.toNat
   generalize Lib.decDigits n.toNat = l at *
   unfold parse
   split
   ·rename_i r heq
    exfalso
    cases l with
    | nil =>
     split at heq
     ·cases heq
     ·simp at heq
    | cons c l =>
     simp only [List.cons_append, List.cons.injEq] at heq
     have := hd c (by simp)
     rw [heq.1] at this
     exact absurd this (by decide)
   ·rfl
  rw [hp, parseU_text false _ _ (by omega) (by omega) (by omega)]
  have e2 : (if false = true then -(n.toNat : Int) else (n.toNat : Int)) = n := by simp; omega
  rw [e2, hmk]
  rfl
end Num
end
section
inductive Dat where
 | mk (kind n d : Int) (s : ByteArray) (l : List Dat)
namespace Dat
open Go
def kind : Dat → Int | mk k _ _ _ _ => k
def n : Dat → Int | mk _ n _ _ _ => n
def d : Dat → Int | mk _ _ d _ _ => d
def s : Dat → ByteArray | mk _ _ _ s _ => s
def l : Dat → List Dat | mk _ _ _ _ l => l
def marks : List UInt8 := [97, 98, 99, 100, 101, 102, 103, 104, 105, 106, 107, 108, 109, 110, 111, 112, 113, 114, 115, 116, 117, 118, 119, 120, 121, 122, 48, 49, 50, 51, 52, 53, 54, 55, 56, 57, 45, 43, 42, 47, 60, 62, 61, 33, 63, 95, 37]
def nameByte (b : UInt8) : Bool := marks.contains b
def name (l : List UInt8) : Bool := decide (1 ≤ l.length) && (decide (l.length ≤ 40) && (l.all nameByte && !(Num.parse l).2.2))
def strByte (b : UInt8) : Bool := decide (32 ≤ b.toNat) && (decide (b.toNat ≤ 126) && (decide (b.toNat ≠ 34) && decide (b.toNat ≠ 92)))
def head (k n d : Int) (s : List UInt8) (len : Nat) : Bool :=
 if k = 0 then Num.right n d && (s.isEmpty && decide (len = 0))
 else if k = 1 then decide (d = 0) && (decide (n = 0 ∨ n = 1) && (s.isEmpty && decide (len = 0)))
 else if k = 2 then decide (d = 0) && (decide (n = 0) && (name s && decide (len = 0)))
 else if k = 3 then decide (d = 0) && (decide (n = 0) && (s.all strByte && decide (len = 0)))
 else if k = 4 ∨ k = 5 then decide (d = 0) && (decide (n = 0) && (s.isEmpty && decide (len = 0)))
 else if k = 6 then decide (d = 0) && (decide (n = 0) && (s.isEmpty && decide (len = 2)))
 else if k = 7 then decide (d = 0) && (decide (n = 0) && s.isEmpty)
 else false
mutual
def right : Dat → Nat → Bool
 | mk k n d s l, deep => decide (deep ≤ 200) && (head k n d s.data.toList l.length && rightL l (deep + 1))
def rightL : List Dat → Nat → Bool
 | [], _ => true
 | x :: l, deep => right x deep && rightL l deep
end
mutual
def few : Dat → Int → Int
 | mk _ _ _ _ l, left => fewL l (left - 1)
def fewL : List Dat → Int → Int
 | [], left => left
 | x :: l, left => if 0 ≤ left then fewL l (few x left) else left
end
mutual
def size : Dat → Nat → Nat
 | mk _ _ _ _ l, deep => 1 + (if deep < 1000 then sizeL l (deep + 1) else 0)
def sizeL : List Dat → Nat → Nat
 | [], _ => 0
 | x :: l, deep => size x deep + sizeL l deep
end
mutual
def all : Dat → Nat
 | mk _ _ _ _ l => 1 + allL l
def allL : List Dat → Nat
 | [] => 0
 | x :: l => all x + allL l
end
mutual
def alike : Dat → Dat → Bool
 | mk k n d s l, mk k' n' d' s' l' => (decide (k = k') && (decide (n = n') && (decide (d = d') && decide (s = s')))) && alikeL l l'
def alikeL : List Dat → List Dat → Bool
 | [], [] => true
 | x :: l, y :: l' => alike x y && alikeL l l'
 | _, _ => false
end
mutual
def text : Dat → Bool → List UInt8
 | mk k n d s l, tail =>
  if k = 6 then (if tail then 32 :: textP l else 40 :: (textP l ++ [41]))
  else if tail then (if k = 4 then [] else [32, 46, 32] ++ textA k n d s l) else textA k n d s l
def textA (k n d : Int) (s : ByteArray) (l : List Dat) : List UInt8 :=
 if k = 0 then Num.text n d
 else if k = 1 then (if n = 1 then [35, 116] else [35, 102])
 else if k = 2 then s.data.toList
 else if k = 3 then 34 :: (s.data.toList ++ [34])
 else if k = 4 then [40, 41]
 else if k = 5 then [35, 118]
 else [35, 40] ++ (textV l true ++ [41])
def textP : List Dat → List UInt8
 | [a, b] => text a false ++ text b true
 | _ => []
def textV : List Dat → Bool → List UInt8
 | [], _ => []
 | x :: l, first => (if first then [] else [32]) ++ (text x false ++ textV l false)
end
def null : Dat := mk 4 0 0 ⟨#[]⟩ []
def pair (a b : Dat) : Dat := mk 6 0 0 ⟨#[]⟩ [a, b]
def list : List Dat → Dat
 | [] => null
 | x :: l => pair x (list l)
def items : Dat → Option (List Dat)
 | mk k _ _ _ [a, b] => if k = 6 then (items b).map (a :: ·) else none
 | mk k _ _ _ _ => if k = 4 then some [] else none
end Dat
end
section
namespace Dat
open Go
theorem ind {P : Dat → Prop} (h : ∀ k n d s l, (∀ x ∈ l, P x) → P (mk k n d s l)) : ∀ x, P x := by
 intro x
 refine Dat.rec (motive_1 := P) (motive_2 := fun l => ∀ x ∈ l, P x) ?_ ?_ ?_ x
 ·intro k n d s l ih; exact h k n d s l ih
 ·intro x hx; cases hx
 ·intro x l hx hl y hy
  rcases List.mem_cons.1 hy with rfl | hy
  ·exact hx
  ·exact hl y hy
theorem all_pos (x : Dat) : 1 ≤ all x := by cases x; simp [all]
theorem few_both : ∀ x : Dat, ∀ left : Int, ((all x : Int) ≤ left → few x left = left - all x) ∧ (left < all x → few x left < 0) := by
 have hL : ∀ l : List Dat, (∀ x ∈ l, ∀ left : Int, ((all x : Int) ≤ left → few x left = left - all x) ∧ (left < all x → few x left < 0)) →
   ∀ left : Int, ((allL l : Int) ≤ left → fewL l left = left - allL l) ∧ (left < allL l → fewL l left < 0) := by
  intro l
  induction l with
  | nil => intro _ left; simp [fewL, allL]
  | cons x l ih =>
   intro h left
   have ih := ih (fun y hy => h y (by simp [hy]))
   have hx := h x (by simp) left
   have hp := all_pos x
   constructor
   ·intro hle
    simp only [allL] at hle
    rw [fewL, if_pos (by omega), hx.1 (by omega), (ih _).1 (by omega)]
    simp only [allL]; omega
   ·intro hlt
    simp only [allL] at hlt
    rw [fewL]
    split
    ·by_cases hc : left < all x
     ·have := hx.2 hc
      have e : fewL l (few x left) = few x left := by
       cases l with
       | nil => rfl
       | cons y l => rw [fewL, if_neg (by omega)]
      omega
     ·rw [hx.1 (by omega)]
      exact (ih _).2 (by omega)
    ·omega
 intro x
 induction x using ind with
 | h k n d s l ih =>
  intro left
  have := hL l ih (left - 1)
  simp only [few, all]
  constructor
  ·intro h; rw [this.1 (by omega)]; omega
  ·intro h; exact this.2 (by omega)
theorem few_iff (x : Dat) (left : Int) : 0 ≤ few x left ↔ (all x : Int) ≤ left := by
 have := few_both x left
 constructor
 ·intro h
  apply Decidable.byContradiction
  intro hc
  have := this.2 (by omega)
  omega
 ·intro h; rw [this.1 h]; omega
theorem few_le (x : Dat) (left : Int) : few x left ≤ left - 1 ∨ few x left < 0 := by
 have := few_both x left
 have hp := all_pos x
 by_cases h : (all x : Int) ≤ left
 ·rw [this.1 h]; omega
 ·exact .inr (this.2 (by omega))
theorem all_mem {x : Dat} {l : List Dat} (h : x ∈ l) : all x ≤ allL l := by
 induction l with
 | nil => cases h
 | cons y l ih =>
  simp only [allL]
  rcases List.mem_cons.1 h with rfl | h
  ·omega
  ·have := ih h; omega
theorem rightL_iff (l : List Dat) (deep : Nat) : rightL l deep = true ↔ ∀ x ∈ l, right x deep = true := by
 induction l with
 | nil => simp [rightL]
 | cons x l ih => simp [rightL, ih]
theorem right_less : ∀ x : Dat, ∀ a b, b ≤ a → right x a = true → right x b = true := by
 intro x
 induction x using ind with
 | h k n d s l ih =>
  intro a b hab h
  simp only [right, Bool.and_eq_true, decide_eq_true_eq] at h ⊢
  refine ⟨by omega, h.2.1, ?_⟩
  rw [rightL_iff] at h ⊢
  exact fun x hx => ih x hx (a + 1) (b + 1) (by omega) (h.2.2 x hx)
theorem right_part {x y : Dat} {deep : Nat} (h : right x deep = true) (hy : y ∈ x.l) : right y 0 = true := by
 obtain ⟨k, n, d, s, l⟩ := x
 simp only [right, Bool.and_eq_true, decide_eq_true_eq] at h
 exact right_less y _ 0 (by omega) ((rightL_iff _ _).1 h.2.2 y hy)
theorem alike_iff : ∀ x y : Dat, alike x y = true ↔ x = y := by
 intro x
 induction x using ind with
 | h k n d s l ih =>
  intro y
  obtain ⟨k', n', d', s', l'⟩ := y
  have hL : ∀ l : List Dat, (∀ x ∈ l, ∀ y : Dat, alike x y = true ↔ x = y) → ∀ l', alikeL l l' = true ↔ l = l' := by
   intro l
   induction l with
   | nil => intro _ l'; cases l' <;> simp [alikeL]
   | cons x l ih =>
    intro h l'
    cases l' with
    | nil => simp [alikeL]
    | cons y l' =>
     simp only [alikeL, Bool.and_eq_true, List.cons.injEq]
     rw [h x (by simp) y, ih (fun z hz => h z (by simp [hz])) l']
  simp only [alike, Bool.and_eq_true, decide_eq_true_eq, hL l ih l', mk.injEq]
  constructor
  ·rintro ⟨⟨a, b, c, d⟩, e⟩; exact ⟨a, b, c, d, e⟩
  ·rintro ⟨a, b, c, d, e⟩; exact ⟨⟨a, b, c, d⟩, e⟩
theorem alike_self (x : Dat) : alike x x = true := (alike_iff x x).2 rfl
theorem items_list (l : List Dat) : items (list l) = some l := by
 induction l with
 | nil => simp [list, null, items]
 | cons x l ih => simp [list, pair, items, ih]
end Dat
end
section
namespace Dat
open Go
def emptyB : ByteArray := ⟨#[]⟩
def delim (r : List UInt8) : Prop := r = [] ∨ ∃ t, r = 32 :: t ∨ r = 41 :: t
theorem takeWhile_delim (p : UInt8 → Bool) {l r : List UInt8} (h : ∀ b ∈ l, p b = true) (hr : r = [] ∨ ∃ c t, r = c :: t ∧ p c = false) :
  (l ++ r).takeWhile p = l ∧ (l ++ r).dropWhile p = r := by
 induction l with
 | nil =>
  rcases hr with rfl | ⟨c, t, rfl, hc⟩
  ·simp
  ·simp [hc]
 | cons c l ih =>
  have hc := h c (by simp)
  have := ih (fun b hb => h b (by simp [hb]))
  simp [hc, this]
theorem digit_name {b : UInt8} (h : Num.isDigit b = true) : nameByte b = true := by
 simp only [Num.isDigit, Bool.and_eq_true, decide_eq_true_eq] at h
 have : ∀ k : Fin 58, 48 ≤ k.val → nameByte (UInt8.ofNat k.val) = true := by decide
 have e : b = UInt8.ofNat b.toNat := by simp
 rw [e]
 exact this ⟨b.toNat, by omega⟩ h.1
theorem itoa_name (n : Int) : ∀ b ∈ Lib.itoa n, nameByte b = true := by
 intro b hb
 unfold Lib.itoa at hb
 split at hb
 ·rcases List.mem_cons.1 hb with rfl | hb
  ·decide
  ·exact digit_name (Num.decDigits_digit _ b hb)
 ·exact digit_name (Num.decDigits_digit _ b hb)
theorem itoa_ne (n : Int) : Lib.itoa n ≠ [] := by
 unfold Lib.itoa
 split
 ·simp
 ·exact Num.decDigits_ne _
theorem text_name {n d : Int} (h : Num.right n d = true) : (∀ b ∈ Num.text n d, nameByte b = true) ∧ Num.text n d ≠ [] := by
 unfold Num.text
 rw [if_pos h]
 constructor
 ·intro b hb
  rcases List.mem_append.1 hb with hb | hb
  ·exact itoa_name _ b hb
  ·split at hb
   ·cases hb
   ·rcases List.mem_cons.1 hb with rfl | hb
    ·decide
    ·exact itoa_name _ b hb
 ·simp [itoa_ne]
theorem empty_of {s : ByteArray} (h : s.data.toList.isEmpty = true) : s = emptyB := by
 obtain ⟨⟨l⟩⟩ := s
 simp only [List.isEmpty_iff] at h
 subst h; rfl
theorem of_toList (s : ByteArray) : (⟨s.data.toList.toArray⟩ : ByteArray) = s := by
 obtain ⟨⟨l⟩⟩ := s; rfl
theorem head_cases {k n d : Int} {s : ByteArray} {l : List Dat} (h : head k n d s.data.toList l.length = true) :
  (k = 0 ∧ Num.right n d = true ∧ s = emptyB ∧ l = []) ∨ (k = 1 ∧ d = 0 ∧ (n = 0 ∨ n = 1) ∧ s = emptyB ∧ l = []) ∨ (k = 2 ∧ d = 0 ∧ n = 0 ∧ name s.data.toList = true ∧ l = []) ∨
  (k = 3 ∧ d = 0 ∧ n = 0 ∧ s.data.toList.all strByte = true ∧ l = []) ∨ (k = 4 ∧ d = 0 ∧ n = 0 ∧ s = emptyB ∧ l = []) ∨ (k = 5 ∧ d = 0 ∧ n = 0 ∧ s = emptyB ∧ l = []) ∨
  (k = 6 ∧ d = 0 ∧ n = 0 ∧ s = emptyB ∧ ∃ a b, l = [a, b]) ∨ (k = 7 ∧ d = 0 ∧ n = 0 ∧ s = emptyB) := by
 have hl : ∀ {l : List Dat}, l.length = 0 → l = [] := fun h => List.length_eq_zero_iff.1 h
 unfold head at h
 split at h
 ·simp only [Bool.and_eq_true, decide_eq_true_eq] at h
  exact .inl ⟨‹_›, h.1, empty_of h.2.1, hl h.2.2⟩
 split at h
 ·simp only [Bool.and_eq_true, decide_eq_true_eq] at h
  exact .inr (.inl ⟨‹_›, h.1, h.2.1, empty_of h.2.2.1, hl h.2.2.2⟩)
 split at h
 ·simp only [Bool.and_eq_true, decide_eq_true_eq] at h
  exact .inr (.inr (.inl ⟨‹_›, h.1, h.2.1, h.2.2.1, hl h.2.2.2⟩))
 split at h
 ·simp only [Bool.and_eq_true, decide_eq_true_eq] at h
  exact .inr (.inr (.inr (.inl ⟨‹_›, h.1, h.2.1, h.2.2.1, hl h.2.2.2⟩)))
 split at h
 ·rename_i hk
  simp only [Bool.and_eq_true, decide_eq_true_eq] at h
  rcases hk with hk | hk
  ·exact .inr (.inr (.inr (.inr (.inl ⟨hk, h.1, h.2.1, empty_of h.2.2.1, hl h.2.2.2⟩))))
  ·exact .inr (.inr (.inr (.inr (.inr (.inl ⟨hk, h.1, h.2.1, empty_of h.2.2.1, hl h.2.2.2⟩)))))
 split at h
 ·simp only [Bool.and_eq_true, decide_eq_true_eq] at h
  refine .inr (.inr (.inr (.inr (.inr (.inr (.inl ⟨‹_›, h.1, h.2.1, empty_of h.2.2.1, ?_⟩))))))
  match l, h.2.2.2 with
  | [a, b], _ => exact ⟨a, b, rfl⟩
 split at h
 ·simp only [Bool.and_eq_true, decide_eq_true_eq] at h
  exact .inr (.inr (.inr (.inr (.inr (.inr (.inr ⟨‹_›, h.1, h.2.1, empty_of h.2.2⟩))))))
 ·cases h
theorem name_iff {l : List UInt8} (h : name l = true) : (∀ b ∈ l, nameByte b = true) ∧ l ≠ [] ∧ (Num.parse l).2.2 = false := by
 simp only [name, Bool.and_eq_true, decide_eq_true_eq, List.all_eq_true, Bool.not_eq_true'] at h
 refine ⟨h.2.2.1, ?_, h.2.2.2⟩
 rintro rfl; simp at h
theorem text_tail : ∀ x : Dat, text x true = [] ∨ ∃ t, text x true = 32 :: t := by
 intro x
 obtain ⟨k, n, d, s, l⟩ := x
 simp only [text]
 split
 ·right; exact ⟨_, rfl⟩
 ·simp only [if_true]
  split
  ·left; rfl
  ·right; exact ⟨_, rfl⟩
theorem delim_tail (x : Dat) (r : List UInt8) : delim (text x true ++ 41 :: r) := by
 rcases text_tail x with h | ⟨t, h⟩
 ·rw [h]; exact .inr ⟨r, .inr rfl⟩
 ·rw [h]; exact .inr ⟨_, .inl rfl⟩
end Dat
end
end Go.Proofs.YtpcneeekmhdhgaaGreatDoor
