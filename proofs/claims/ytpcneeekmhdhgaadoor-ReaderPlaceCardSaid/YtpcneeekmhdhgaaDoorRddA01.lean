/-
  What the proofs lean on: Plain, Shelf, Nums, Unt, Rd.
-/
import Derived.Lib.ItoaNum
import Derived.Lib.Atoi
import Derived.Lib.AtoiAll
import Derived.Lib.SlTrimSet
import Derived.Shelf.Strings.Builder1
import Derived.Shelf.Strings.Trim
import Derived.Shelf.Small.Utf8
import Derived.Shelf.Small.Strs
import Derived.Shelf.Small.Wraps
import Derived.Shelf.Strings.BuilderF
import Derived.Shelf.Strings.BuilderK
import Derived.Shelf.Strconv.Atoi
import Derived.Shelf.Strconv.Itoa0
import Derived.Shelf.Strconv.Itoa1
import Derived.Shelf.LaysM
import Derived.Shelf.Strconv.Itoa2
import Derived.Shelf.Strconv.Itoa3
import Derived.Shelf.Strconv.AtoiErrFast
import Derived.Shelf.Strconv.Clone
import Derived.Shelf.Strings.Search1
import Derived.Shelf.Strings.Search2
import Derived.Shelf.Strings.Cut
import Derived.Shelf.Strings.Shaped
import Derived.Shelf.Strings.Prefix
import Derived.Shelf.Unicode.Decode
import Derived.Shelf.Strings.Runes
import Derived.Shelf.Strings.AsciiSet
import Derived.Shelf.Unicode.DecodeSlow
import Derived.Shelf.Unicode.DecodeAny
import Derived.Shelf.Unicode.DecodeLast
import Derived.Shelf.Strings.BuilderCap
import Derived.Shelf.Strings.SlTrimAscii
import Derived.Test.YtpcneeekmhdhgaaDoorProg
import Derived.WalkKit
import Derived.ProofKit
import Derived.BigQuiet
import Derived.Deep.QuietTactic
import Derived.Lib.Hide
import Derived.IntWalk
set_option maxRecDepth 100000
set_option maxHeartbeats 16000000
namespace Go.Proofs
open Go.Shelf
def Tryd.lays169_ren : Go.Shelf.Ren := ⟨fun | 169 => 12 | n => n, fun | 70 => 38 | 9 => 9 | 0 => 0 | 72 => 41 | 37 => 39 | 127 => 58 | 3 => 3 | 5 => 5 | n => n, fun | n => n⟩
theorem Tryd.lays169 : Go.Proofs.Lays.n169 Tryd.prog Tryd.lays169_ren := {
 mixed := by kernel_rfl
 f169 := Tryd.func12.trans (congrArg some (by kernel_rfl))
 t0 := Tryd.underlying0
 a0 := Tryd.isAgg0
 z0 := Tryd.sizeOf0
 v0 := Tryd.zeroValue0
 t3 := Tryd.underlying3
 a3 := Tryd.isAgg3
 z3 := Tryd.sizeOf3
 v3 := Tryd.zeroValue3
 t9 := Tryd.underlying9
 a9 := Tryd.isAgg9
 z9 := Tryd.sizeOf9
 v9 := Tryd.zeroValue9
 t37 := Tryd.underlying39
 a37 := Tryd.isAgg39
 z37 := Tryd.sizeOf39
 v37 := Tryd.zeroValue39
 t70 := Tryd.underlying38
 a70 := Tryd.isAgg38
 z70 := Tryd.sizeOf38
 v70 := Tryd.zeroValue38
 t72 := Tryd.underlying41
 a72 := Tryd.isAgg41
 z72 := Tryd.sizeOf41
 v72 := Tryd.zeroValue41
 t127 := Tryd.underlying58
 a127 := Tryd.isAgg58
 z127 := Tryd.sizeOf58
 v127 := Tryd.zeroValue58 }
theorem Tryd.Builder_Extra_169 : Builder.Extra Tryd.prog Tryd.lays169_ren := {
 sizeBuilder := by kernel_rfl
 liesBuilder := by kernel_rfl
 t5 := Tryd.underlying5
 a5 := Tryd.isAgg5
 z5 := Tryd.sizeOf5
 v5 := Tryd.zeroValue5
 infoByte := by kernel_rfl
 cellsByte := by kernel_rfl
 sizeByte := by kernel_rfl
 neB5 := by decide }
def Tryd.lays161_ren : Go.Shelf.Ren := ⟨fun | 161 => 13 | 231 => 28 | 227 => 29 | 233 => 30 | 235 => 31 | 228 => 43 | 197 => 44 | 151 => 45 | 260 => 58 | 152 => 59 | 137 => 16 | 119 => 67 | 224 => 68 | 225 => 69 | 217 => 33 | 266 => 46 | n => n, fun | 9 => 9 | 4 => 4 | 3 => 3 | 5 => 5 | 117 => 62 | 116 => 61 | 0 => 0 | 124 => 65 | 105 => 75 | 21 => 21 | 119 => 94 | 46 => 95 | 139 => 98 | 138 => 97 | n => n, fun | 3 => 1 | 4 => 2 | n => n⟩
theorem Tryd.lays161 : Go.Proofs.Lays.n161 Tryd.prog Tryd.lays161_ren := {
 mixed := by kernel_rfl
 f119 := Tryd.func67.trans (congrArg some (by kernel_rfl))
 f137 := Tryd.func16.trans (congrArg some (by kernel_rfl))
 f151 := Tryd.func45.trans (congrArg some (by kernel_rfl))
 f152 := Tryd.func59.trans (congrArg some (by kernel_rfl))
 f161 := Tryd.func13.trans (congrArg some (by kernel_rfl))
 f197 := Tryd.func44.trans (congrArg some (by kernel_rfl))
 f217 := Tryd.func33.trans (congrArg some (by kernel_rfl))
 f224 := Tryd.func68.trans (congrArg some (by kernel_rfl))
 f225 := Tryd.func69.trans (congrArg some (by kernel_rfl))
 f227 := Tryd.func29.trans (congrArg some (by kernel_rfl))
 f228 := Tryd.func43.trans (congrArg some (by kernel_rfl))
 f231 := Tryd.func28.trans (congrArg some (by kernel_rfl))
 f233 := Tryd.func30.trans (congrArg some (by kernel_rfl))
 f235 := Tryd.func31.trans (congrArg some (by kernel_rfl))
 f260 := Tryd.func58.trans (congrArg some (by kernel_rfl))
 f266 := Tryd.func46.trans (congrArg some (by kernel_rfl))
 t0 := Tryd.underlying0
 a0 := Tryd.isAgg0
 z0 := Tryd.sizeOf0
 v0 := Tryd.zeroValue0
 t3 := Tryd.underlying3
 a3 := Tryd.isAgg3
 z3 := Tryd.sizeOf3
 v3 := Tryd.zeroValue3
 t4 := Tryd.underlying4
 a4 := Tryd.isAgg4
 z4 := Tryd.sizeOf4
 v4 := Tryd.zeroValue4
 t5 := Tryd.underlying5
 a5 := Tryd.isAgg5
 z5 := Tryd.sizeOf5
 v5 := Tryd.zeroValue5
 t9 := Tryd.underlying9
 a9 := Tryd.isAgg9
 z9 := Tryd.sizeOf9
 v9 := Tryd.zeroValue9
 t21 := Tryd.underlying21
 a21 := Tryd.isAgg21
 z21 := Tryd.sizeOf21
 v21 := Tryd.zeroValue21
 t46 := Tryd.underlying95
 a46 := Tryd.isAgg95
 z46 := Tryd.sizeOf95
 v46 := Tryd.zeroValue95
 t105 := Tryd.underlying75
 a105 := Tryd.isAgg75
 z105 := Tryd.sizeOf75
 v105 := Tryd.zeroValue75
 t116 := Tryd.underlying61
 a116 := Tryd.isAgg61
 z116 := Tryd.sizeOf61
 t117 := Tryd.underlying62
 a117 := Tryd.isAgg62
 z117 := Tryd.sizeOf62
 v117 := Tryd.zeroValue62
 t119 := Tryd.underlying94
 a119 := Tryd.isAgg94
 z119 := Tryd.sizeOf94
 t124 := Tryd.underlying65
 a124 := Tryd.isAgg65
 z124 := Tryd.sizeOf65
 v124 := Tryd.zeroValue65
 t138 := Tryd.underlying97
 a138 := Tryd.isAgg97
 z138 := Tryd.sizeOf97
 v138 := Tryd.zeroValue97
 t139 := Tryd.underlying98
 a139 := Tryd.isAgg98
 z139 := Tryd.sizeOf98
 v139 := Tryd.zeroValue98
 g3 := by kernel_rfl
 g4 := by kernel_rfl }
def Tryd.lays160_ren : Go.Shelf.Ren := ⟨fun | 160 => 54 | 232 => 63 | 231 => 28 | 227 => 29 | 234 => 64 | 233 => 30 | 236 => 65 | 235 => 31 | 228 => 43 | 271 => 73 | 151 => 45 | 197 => 44 | 120 => 84 | 152 => 59 | 260 => 58 | 137 => 16 | 119 => 67 | 224 => 68 | 225 => 69 | 217 => 33 | 266 => 46 | n => n, fun | 9 => 9 | 4 => 4 | 3 => 3 | 5 => 5 | 117 => 62 | 116 => 61 | 0 => 0 | 124 => 65 | 21 => 21 | 105 => 75 | 46 => 95 | 119 => 94 | 139 => 98 | 138 => 97 | n => n, fun | 3 => 1 | 4 => 2 | n => n⟩
theorem Tryd.lays160 : Go.Proofs.Lays.n160 Tryd.prog Tryd.lays160_ren := {
 mixed := by kernel_rfl
 f119 := Tryd.func67.trans (congrArg some (by kernel_rfl))
 f120 := Tryd.func84.trans (congrArg some (by kernel_rfl))
 f137 := Tryd.func16.trans (congrArg some (by kernel_rfl))
 f151 := Tryd.func45.trans (congrArg some (by kernel_rfl))
 f152 := Tryd.func59.trans (congrArg some (by kernel_rfl))
 f160 := Tryd.func54.trans (congrArg some (by kernel_rfl))
 f197 := Tryd.func44.trans (congrArg some (by kernel_rfl))
 f217 := Tryd.func33.trans (congrArg some (by kernel_rfl))
 f224 := Tryd.func68.trans (congrArg some (by kernel_rfl))
 f225 := Tryd.func69.trans (congrArg some (by kernel_rfl))
 f227 := Tryd.func29.trans (congrArg some (by kernel_rfl))
 f228 := Tryd.func43.trans (congrArg some (by kernel_rfl))
 f231 := Tryd.func28.trans (congrArg some (by kernel_rfl))
 f232 := Tryd.func63.trans (congrArg some (by kernel_rfl))
 f233 := Tryd.func30.trans (congrArg some (by kernel_rfl))
 f234 := Tryd.func64.trans (congrArg some (by kernel_rfl))
 f235 := Tryd.func31.trans (congrArg some (by kernel_rfl))
 f236 := Tryd.func65.trans (congrArg some (by kernel_rfl))
 f260 := Tryd.func58.trans (congrArg some (by kernel_rfl))
 f266 := Tryd.func46.trans (congrArg some (by kernel_rfl))
 f271 := Tryd.func73.trans (congrArg some (by kernel_rfl))
 t0 := Tryd.underlying0
 a0 := Tryd.isAgg0
 z0 := Tryd.sizeOf0
 v0 := Tryd.zeroValue0
 t3 := Tryd.underlying3
 a3 := Tryd.isAgg3
 z3 := Tryd.sizeOf3
 v3 := Tryd.zeroValue3
 t4 := Tryd.underlying4
 a4 := Tryd.isAgg4
 z4 := Tryd.sizeOf4
 v4 := Tryd.zeroValue4
 t5 := Tryd.underlying5
 a5 := Tryd.isAgg5
 z5 := Tryd.sizeOf5
 v5 := Tryd.zeroValue5
 t9 := Tryd.underlying9
 a9 := Tryd.isAgg9
 z9 := Tryd.sizeOf9
 v9 := Tryd.zeroValue9
 t21 := Tryd.underlying21
 a21 := Tryd.isAgg21
 z21 := Tryd.sizeOf21
 v21 := Tryd.zeroValue21
 t46 := Tryd.underlying95
 a46 := Tryd.isAgg95
 z46 := Tryd.sizeOf95
 v46 := Tryd.zeroValue95
 t105 := Tryd.underlying75
 a105 := Tryd.isAgg75
 z105 := Tryd.sizeOf75
 v105 := Tryd.zeroValue75
 t116 := Tryd.underlying61
 a116 := Tryd.isAgg61
 z116 := Tryd.sizeOf61
 t117 := Tryd.underlying62
 a117 := Tryd.isAgg62
 z117 := Tryd.sizeOf62
 v117 := Tryd.zeroValue62
 t119 := Tryd.underlying94
 a119 := Tryd.isAgg94
 z119 := Tryd.sizeOf94
 t124 := Tryd.underlying65
 a124 := Tryd.isAgg65
 z124 := Tryd.sizeOf65
 v124 := Tryd.zeroValue65
 t138 := Tryd.underlying97
 a138 := Tryd.isAgg97
 z138 := Tryd.sizeOf97
 v138 := Tryd.zeroValue97
 t139 := Tryd.underlying98
 a139 := Tryd.isAgg98
 z139 := Tryd.sizeOf98
 v139 := Tryd.zeroValue98
 g3 := by kernel_rfl
 g4 := by kernel_rfl }
def Tryd.lays137_ren : Go.Shelf.Ren := ⟨fun | 137 => 16 | 217 => 33 | 266 => 46 | n => n, fun | 9 => 9 | 5 => 5 | 3 => 3 | n => n, fun | n => n⟩
theorem Tryd.lays137 : Go.Proofs.Lays.n137 Tryd.prog Tryd.lays137_ren := {
 mixed := by kernel_rfl
 f137 := Tryd.func16.trans (congrArg some (by kernel_rfl))
 f217 := Tryd.func33.trans (congrArg some (by kernel_rfl))
 f266 := Tryd.func46.trans (congrArg some (by kernel_rfl))
 t3 := Tryd.underlying3
 a3 := Tryd.isAgg3
 z3 := Tryd.sizeOf3
 v3 := Tryd.zeroValue3
 t5 := Tryd.underlying5
 a5 := Tryd.isAgg5
 z5 := Tryd.sizeOf5
 v5 := Tryd.zeroValue5
 t9 := Tryd.underlying9
 a9 := Tryd.isAgg9
 z9 := Tryd.sizeOf9
 v9 := Tryd.zeroValue9 }
open Go.RowKit in
theorem Tryd.strings_IndexByte (s : ByteArray) (c : Int) (w : World) :
  Calls Tryd.prog 16 #[.string s, .int .u8 c] w fun e w' => e = .returned (.int .i64 (Lib.indexByte s.data.toList c.toNat.toUInt8)) ∧ w' = w := Any.strings_IndexByte Tryd.lays137 s c w
def Tryd.lays103_ren : Go.Shelf.Ren := ⟨fun | 103 => 47 | 210 => 60 | 206 => 32 | n => n, fun | 9 => 9 | 4 => 4 | 24 => 78 | 3 => 3 | n => n, fun | n => n⟩
theorem Tryd.lays103 : Go.Proofs.Lays.n103 Tryd.prog Tryd.lays103_ren := {
 mixed := by kernel_rfl
 f103 := Tryd.func47.trans (congrArg some (by kernel_rfl))
 f206 := Tryd.func32.trans (congrArg some (by kernel_rfl))
 f210 := Tryd.func60.trans (congrArg some (by kernel_rfl))
 t3 := Tryd.underlying3
 a3 := Tryd.isAgg3
 z3 := Tryd.sizeOf3
 v3 := Tryd.zeroValue3
 t4 := Tryd.underlying4
 a4 := Tryd.isAgg4
 z4 := Tryd.sizeOf4
 v4 := Tryd.zeroValue4
 t9 := Tryd.underlying9
 a9 := Tryd.isAgg9
 z9 := Tryd.sizeOf9
 v9 := Tryd.zeroValue9
 t24 := Tryd.underlying78
 a24 := Tryd.isAgg78
 z24 := Tryd.sizeOf78
 v24 := Tryd.zeroValue78 }
open Go.RowKit in
theorem Tryd.strings_CutPrefix (s p : ByteArray) (w : World) :
  Calls Tryd.prog 47 #[.string s, .string p] w fun e w' => e = .returned (.tuple #[.string ⟨(Lib.trimPrefix s.data.toList p.data.toList).toArray⟩, .bool (Lib.hasPrefix s.data.toList p.data.toList)]) ∧ w' = w := Any.strings_CutPrefix Tryd.lays103 s p w
open Go.RowKit in
theorem Tryd.Builder_String_any_f (B b : Nat) (l : List UInt8) (w : World) (h : Lib.IsBuilderF 41 5 B b (Lib.byteCells l) w) (hBw : B ≤ w.heap.size) :
  Calls Tryd.prog 12 #[.pointer (some ⟨b, 0, none⟩)] w fun e w' => e = .returned (.string ⟨l.toArray⟩) ∧ (Lib.IsBuilderF 41 5 B b (Lib.byteCells l) w' ∧ Below B w w') := Any.Builder_String_any_f Tryd.lays169 Tryd.Builder_Extra_169 B b l w h hBw
def Tryd.lays172_ren : Go.Shelf.Ren := ⟨fun | 172 => 62 | 244 => 71 | 245 => 72 | 247 => 79 | 279 => 80 | 280 => 81 | 281 => 82 | 282 => 83 | 287 => 91 | 316 => 92 | 171 => 42 | 205 => 93 | 321 => 96 | 322 => 97 | 243 => 57 | 246 => 66 | 283 => 74 | 284 => 75 | 285 => 76 | 286 => 77 | 129 => 86 | 317 => 85 | 318 => 87 | 319 => 88 | 320 => 89 | 337 => 94 | 338 => 95 | n => n, fun | 9 => 9 | 3 => 3 | 75 => 53 | 76 => 54 | 4 => 4 | 5 => 5 | 167 => 108 | 37 => 39 | 0 => 0 | 85 => 109 | 2 => 2 | 168 => 111 | 53 => 87 | 175 => 122 | 46 => 95 | 210 => 126 | 127 => 58 | 145 => 132 | 143 => 130 | 21 => 21 | 171 => 103 | 173 => 106 | 212 => 115 | 51 => 116 | 20 => 20 | 213 => 117 | 232 => 133 | 233 => 134 | 80 => 43 | n => n, fun | 15 => 4 | 16 => 5 | 17 => 3 | 18 => 6 | 19 => 7 | n => n⟩
theorem Tryd.lays172 : Go.Proofs.Lays.n172 Tryd.prog Tryd.lays172_ren := {
 mixed := by kernel_rfl
 f129 := Tryd.func86.trans (congrArg some (by kernel_rfl))
 f171 := Tryd.func42.trans (congrArg some (by kernel_rfl))
 f172 := Tryd.func62.trans (congrArg some (by kernel_rfl))
 f205 := Tryd.func93.trans (congrArg some (by kernel_rfl))
 f243 := Tryd.func57.trans (congrArg some (by kernel_rfl))
 f244 := Tryd.func71.trans (congrArg some (by kernel_rfl))
 f245 := Tryd.func72.trans (congrArg some (by kernel_rfl))
 f246 := Tryd.func66.trans (congrArg some (by kernel_rfl))
 f247 := Tryd.func79.trans (congrArg some (by kernel_rfl))
 f279 := Tryd.func80.trans (congrArg some (by kernel_rfl))
 f280 := Tryd.func81.trans (congrArg some (by kernel_rfl))
 f281 := Tryd.func82.trans (congrArg some (by kernel_rfl))
 f282 := Tryd.func83.trans (congrArg some (by kernel_rfl))
 f283 := Tryd.func74.trans (congrArg some (by kernel_rfl))
 f284 := Tryd.func75.trans (congrArg some (by kernel_rfl))
 f285 := Tryd.func76.trans (congrArg some (by kernel_rfl))
 f286 := Tryd.func77.trans (congrArg some (by kernel_rfl))
 f287 := Tryd.func91.trans (congrArg some (by kernel_rfl))
 f316 := Tryd.func92.trans (congrArg some (by kernel_rfl))
 f317 := Tryd.func85.trans (congrArg some (by kernel_rfl))
 f318 := Tryd.func87.trans (congrArg some (by kernel_rfl))
 f319 := Tryd.func88.trans (congrArg some (by kernel_rfl))
 f320 := Tryd.func89.trans (congrArg some (by kernel_rfl))
 f321 := Tryd.func96.trans (congrArg some (by kernel_rfl))
 f322 := Tryd.func97.trans (congrArg some (by kernel_rfl))
 f337 := Tryd.func94.trans (congrArg some (by kernel_rfl))
 f338 := Tryd.func95.trans (congrArg some (by kernel_rfl))
 t0 := Tryd.underlying0
 a0 := Tryd.isAgg0
 z0 := Tryd.sizeOf0
 v0 := Tryd.zeroValue0
 t2 := Tryd.underlying2
 a2 := Tryd.isAgg2
 z2 := Tryd.sizeOf2
 v2 := Tryd.zeroValue2
 t3 := Tryd.underlying3
 a3 := Tryd.isAgg3
 z3 := Tryd.sizeOf3
 v3 := Tryd.zeroValue3
 t4 := Tryd.underlying4
 a4 := Tryd.isAgg4
 z4 := Tryd.sizeOf4
 v4 := Tryd.zeroValue4
 t5 := Tryd.underlying5
 a5 := Tryd.isAgg5
 z5 := Tryd.sizeOf5
 v5 := Tryd.zeroValue5
 t9 := Tryd.underlying9
 a9 := Tryd.isAgg9
 z9 := Tryd.sizeOf9
 v9 := Tryd.zeroValue9
 t20 := Tryd.underlying20
 a20 := Tryd.isAgg20
 z20 := Tryd.sizeOf20
 v20 := Tryd.zeroValue20
 t21 := Tryd.underlying21
 a21 := Tryd.isAgg21
 z21 := Tryd.sizeOf21
 v21 := Tryd.zeroValue21
 t37 := Tryd.underlying39
 a37 := Tryd.isAgg39
 z37 := Tryd.sizeOf39
 v37 := Tryd.zeroValue39
 t46 := Tryd.underlying95
 a46 := Tryd.isAgg95
 z46 := Tryd.sizeOf95
 v46 := Tryd.zeroValue95
 t51 := Tryd.underlying116
 a51 := Tryd.isAgg116
 z51 := Tryd.sizeOf116
 v51 := Tryd.zeroValue116
 t53 := Tryd.underlying87
 a53 := Tryd.isAgg87
 z53 := Tryd.sizeOf87
 v53 := Tryd.zeroValue87
 t75 := Tryd.underlying53
 a75 := Tryd.isAgg53
 z75 := Tryd.sizeOf53
 v75 := Tryd.zeroValue53
 t76 := Tryd.underlying54
 a76 := Tryd.isAgg54
 z76 := Tryd.sizeOf54
 v76 := Tryd.zeroValue54
 t85 := Tryd.underlying109
 a85 := Tryd.isAgg109
 z85 := Tryd.sizeOf109
 v85 := Tryd.zeroValue109
 t127 := Tryd.underlying58
 a127 := Tryd.isAgg58
 z127 := Tryd.sizeOf58
 v127 := Tryd.zeroValue58
 t143 := Tryd.underlying130
 a143 := Tryd.isAgg130
 z143 := Tryd.sizeOf130
 v143 := Tryd.zeroValue130
 t145 := Tryd.underlying132
 a145 := Tryd.isAgg132
 z145 := Tryd.sizeOf132
 v145 := Tryd.zeroValue132
 t167 := Tryd.underlying108
 a167 := Tryd.isAgg108
 z167 := Tryd.sizeOf108
 v167 := Tryd.zeroValue108
 t168 := Tryd.underlying111
 a168 := Tryd.isAgg111
 z168 := Tryd.sizeOf111
 v168 := Tryd.zeroValue111
 t171 := Tryd.underlying103
 a171 := Tryd.isAgg103
 z171 := Tryd.sizeOf103
 v171 := Tryd.zeroValue103
 t173 := Tryd.underlying106
 a173 := Tryd.isAgg106
 z173 := Tryd.sizeOf106
 v173 := Tryd.zeroValue106
 t175 := Tryd.underlying122
 a175 := Tryd.isAgg122
 z175 := Tryd.sizeOf122
 v175 := Tryd.zeroValue122
 t210 := Tryd.underlying126
 a210 := Tryd.isAgg126
 z210 := Tryd.sizeOf126
 v210 := Tryd.zeroValue126
 t212 := Tryd.underlying115
 a212 := Tryd.isAgg115
 z212 := Tryd.sizeOf115
 v212 := Tryd.zeroValue115
 t213 := Tryd.underlying117
 a213 := Tryd.isAgg117
 z213 := Tryd.sizeOf117
 t232 := Tryd.underlying133
 a232 := Tryd.isAgg133
 z232 := Tryd.sizeOf133
 v232 := Tryd.zeroValue133
 t233 := Tryd.underlying134
 a233 := Tryd.isAgg134
 z233 := Tryd.sizeOf134
 v233 := Tryd.zeroValue134
 g15 := by kernel_rfl
 g16 := by kernel_rfl
 g17 := by kernel_rfl
 g18 := by kernel_rfl
 g19 := by kernel_rfl }
open Go.RowKit in
theorem Tryd.strconv_Atoi (s : ByteArray) (n : Int) (hl : s.size ≤ 18) (h : Lib.atoi s.data.toList = some n) (w : World) :
  Calls Tryd.prog 62 #[.string s] w fun e w' => e = .returned (.tuple #[.int .i64 n, .nilIface]) ∧ ∃ t, w' = Lib.bytesWorld w 5 t := Any.strconv_Atoi Tryd.lays172 s n hl h w
def Tryd.laysM171_ren : Go.Shelf.Ren := ⟨fun | 171 => 42 | 243 => 57 | 246 => 66 | 283 => 74 | 284 => 75 | 285 => 76 | 286 => 77 | 129 => 86 | 317 => 85 | 318 => 87 | 319 => 88 | 320 => 89 | 337 => 94 | 338 => 95 | n => n, fun | 3 => 3 | 9 => 9 | 2 => 2 | 4 => 4 | 171 => 103 | 0 => 0 | 53 => 87 | 37 => 39 | 5 => 5 | 173 => 106 | 212 => 115 | 51 => 116 | 20 => 20 | 213 => 117 | 46 => 95 | 232 => 133 | 233 => 134 | n => n, fun | 17 => 3 | 18 => 6 | 19 => 7 | n => n⟩
theorem Tryd.laysM171 : Go.Proofs.LaysM.n171 Tryd.prog Tryd.laysM171_ren := {
 mixed := by kernel_rfl
 f129 := Tryd.func86.trans (congrArg some (by kernel_rfl))
 f171 := Tryd.func42.trans (congrArg some (by kernel_rfl))
 f243 := Tryd.func57.trans (congrArg some (by kernel_rfl))
 f246 := Tryd.func66.trans (congrArg some (by kernel_rfl))
 f283 := Tryd.func74.trans (congrArg some (by kernel_rfl))
 f284 := Tryd.func75.trans (congrArg some (by kernel_rfl))
 f285 := Tryd.func76.trans (congrArg some (by kernel_rfl))
 f286 := Tryd.func77.trans (congrArg some (by kernel_rfl))
 f317 := Tryd.func85.trans (congrArg some (by kernel_rfl))
 f318 := Tryd.func87.trans (congrArg some (by kernel_rfl))
 f319 := Tryd.func88.trans (congrArg some (by kernel_rfl))
 f320 := Tryd.func89.trans (congrArg some (by kernel_rfl))
 f337 := Tryd.func94.trans (congrArg some (by kernel_rfl))
 f338 := Tryd.func95.trans (congrArg some (by kernel_rfl))
 t0 := Tryd.underlying0
 a0 := Tryd.isAgg0
 z0 := Tryd.sizeOf0
 v0 := Tryd.zeroValue0
 t2 := Tryd.underlying2
 a2 := Tryd.isAgg2
 z2 := Tryd.sizeOf2
 v2 := Tryd.zeroValue2
 t3 := Tryd.underlying3
 a3 := Tryd.isAgg3
 z3 := Tryd.sizeOf3
 v3 := Tryd.zeroValue3
 t4 := Tryd.underlying4
 a4 := Tryd.isAgg4
 z4 := Tryd.sizeOf4
 v4 := Tryd.zeroValue4
 t5 := Tryd.underlying5
 a5 := Tryd.isAgg5
 z5 := Tryd.sizeOf5
 v5 := Tryd.zeroValue5
 t9 := Tryd.underlying9
 a9 := Tryd.isAgg9
 z9 := Tryd.sizeOf9
 v9 := Tryd.zeroValue9
 t20 := Tryd.underlying20
 a20 := Tryd.isAgg20
 z20 := Tryd.sizeOf20
 v20 := Tryd.zeroValue20
 t37 := Tryd.underlying39
 a37 := Tryd.isAgg39
 z37 := Tryd.sizeOf39
 v37 := Tryd.zeroValue39
 t46 := Tryd.underlying95
 a46 := Tryd.isAgg95
 z46 := Tryd.sizeOf95
 v46 := Tryd.zeroValue95
 t51 := Tryd.underlying116
 a51 := Tryd.isAgg116
 z51 := Tryd.sizeOf116
 v51 := Tryd.zeroValue116
 t53 := Tryd.underlying87
 a53 := Tryd.isAgg87
 z53 := Tryd.sizeOf87
 v53 := Tryd.zeroValue87
 t171 := Tryd.underlying103
 a171 := Tryd.isAgg103
 z171 := Tryd.sizeOf103
 v171 := Tryd.zeroValue103
 t173 := Tryd.underlying106
 a173 := Tryd.isAgg106
 z173 := Tryd.sizeOf106
 v173 := Tryd.zeroValue106
 t212 := Tryd.underlying115
 a212 := Tryd.isAgg115
 z212 := Tryd.sizeOf115
 v212 := Tryd.zeroValue115
 t213 := Tryd.underlying117
 a213 := Tryd.isAgg117
 z213 := Tryd.sizeOf117
 t232 := Tryd.underlying133
 a232 := Tryd.isAgg133
 z232 := Tryd.sizeOf133
 v232 := Tryd.zeroValue133
 t233 := Tryd.underlying134
 a233 := Tryd.isAgg134
 z233 := Tryd.sizeOf134
 v233 := Tryd.zeroValue134
 g17 := by kernel_rfl
 g18 := by kernel_rfl
 g19 := by kernel_rfl
 i0 := by kernel_rfl
 i2 := by kernel_rfl
 i3 := by kernel_rfl
 i4 := by kernel_rfl
 i5 := by kernel_rfl
 i9 := by kernel_rfl
 i20 := by kernel_rfl
 i37 := by kernel_rfl
 i46 := by kernel_rfl
 i51 := by kernel_rfl
 i53 := by kernel_rfl
 i171 := by kernel_rfl
 i173 := by kernel_rfl
 i212 := by kernel_rfl
 i232 := by kernel_rfl
 i233 := by kernel_rfl
 m17 := by kernel_rfl
 m18 := by kernel_rfl
 m19 := by kernel_rfl }
open Go.RowKit Go.Sort Go.Lib in
theorem Tryd.strconv_Itoa (n : Int) (h0 : -9223372036854775808 ≤ n) (h1 : n ≤ 9223372036854775807) (w : World) (htab : Lib.TabIs Tryd.prog w "internal/strconv.uint64pow10" .u64 Lib.pow10Tab) :
  Calls Tryd.prog 42 #[.int .i64 n] w fun e w' => e = .returned (.string ⟨(Lib.itoa n).toArray⟩) ∧ ∃ k os, w' = grow (w.drewN k) os := Any.strconv_Itoa Tryd.laysM171 n h0 h1 w htab
def Tryd.lays219_ren : Go.Shelf.Ren := ⟨fun | 219 => 70 | 217 => 33 | 225 => 69 | 224 => 68 | 267 => 78 | 266 => 46 | 314 => 90 | n => n, fun | 9 => 9 | 3 => 3 | 4 => 4 | 5 => 5 | 46 => 95 | 146 => 120 | 51 => 116 | n => n, fun | 1 => 0 | n => n⟩
theorem Tryd.lays219 : Go.Proofs.Lays.n219 Tryd.prog Tryd.lays219_ren := {
 mixed := by kernel_rfl
 f217 := Tryd.func33.trans (congrArg some (by kernel_rfl))
 f219 := Tryd.func70.trans (congrArg some (by kernel_rfl))
 f224 := Tryd.func68.trans (congrArg some (by kernel_rfl))
 f225 := Tryd.func69.trans (congrArg some (by kernel_rfl))
 f266 := Tryd.func46.trans (congrArg some (by kernel_rfl))
 f267 := Tryd.func78.trans (congrArg some (by kernel_rfl))
 f314 := Tryd.func90.trans (congrArg some (by kernel_rfl))
 t3 := Tryd.underlying3
 a3 := Tryd.isAgg3
 z3 := Tryd.sizeOf3
 v3 := Tryd.zeroValue3
 t4 := Tryd.underlying4
 a4 := Tryd.isAgg4
 z4 := Tryd.sizeOf4
 v4 := Tryd.zeroValue4
 t5 := Tryd.underlying5
 a5 := Tryd.isAgg5
 z5 := Tryd.sizeOf5
 v5 := Tryd.zeroValue5
 t9 := Tryd.underlying9
 a9 := Tryd.isAgg9
 z9 := Tryd.sizeOf9
 v9 := Tryd.zeroValue9
 t46 := Tryd.underlying95
 a46 := Tryd.isAgg95
 z46 := Tryd.sizeOf95
 v46 := Tryd.zeroValue95
 t51 := Tryd.underlying116
 a51 := Tryd.isAgg116
 z51 := Tryd.sizeOf116
 v51 := Tryd.zeroValue116
 t146 := Tryd.underlying120
 a146 := Tryd.isAgg120
 z146 := Tryd.sizeOf120
 v146 := Tryd.zeroValue120
 g1 := by kernel_rfl }
open Go.RowKit Go.Lib in
theorem Tryd.stringslite_Index_one (s : ByteArray) (c : UInt8) (w : World) :
  Calls Tryd.prog 70 #[.string s, .string ⟨#[c]⟩] w fun e w' => e = .returned (.int .i64 (Lib.indexByte s.data.toList c)) ∧ w' = w := Any.stringslite_Index_one Tryd.lays219 s c w
def Tryd.lays99_ren : Go.Shelf.Ren := ⟨fun | 99 => 15 | 206 => 32 | n => n, fun | 9 => 9 | 4 => 4 | 3 => 3 | n => n, fun | n => n⟩
theorem Tryd.lays99 : Go.Proofs.Lays.n99 Tryd.prog Tryd.lays99_ren := {
 mixed := by kernel_rfl
 f99 := Tryd.func15.trans (congrArg some (by kernel_rfl))
 f206 := Tryd.func32.trans (congrArg some (by kernel_rfl))
 t3 := Tryd.underlying3
 a3 := Tryd.isAgg3
 z3 := Tryd.sizeOf3
 v3 := Tryd.zeroValue3
 t4 := Tryd.underlying4
 a4 := Tryd.isAgg4
 z4 := Tryd.sizeOf4
 v4 := Tryd.zeroValue4
 t9 := Tryd.underlying9
 a9 := Tryd.isAgg9
 z9 := Tryd.sizeOf9
 v9 := Tryd.zeroValue9 }
open Go.RowKit Go.Lib in
theorem Tryd.strings_HasPrefix (s p : ByteArray) (w : World) :
  Calls Tryd.prog 15 #[.string s, .string p] w fun e w' => e = .returned (.bool (Lib.hasPrefix s.data.toList p.data.toList)) ∧ w' = w := Any.strings_HasPrefix Tryd.lays99 s p w
end Go.Proofs
namespace Go.Proofs.YtpcneeekmhdhgaaDoor
section
namespace Num
def mk (n d : Int) : Int × Int × Int :=
 if d = 0 then (0, 0, 4) else
 if 2147483647 < n.natAbs / Int.gcd n d ∨ 2147483647 < d.natAbs / Int.gcd n d then (0, 0, 3) else
 if n < 0 ↔ d < 0 then (((n.natAbs / Int.gcd n d : Nat) : Int), ((d.natAbs / Int.gcd n d : Nat) : Int), 0)
 else (-((n.natAbs / Int.gcd n d : Nat) : Int), ((d.natAbs / Int.gcd n d : Nat) : Int), 0)
def right (n d : Int) : Bool :=
 decide (1 ≤ d) && (decide (d ≤ 2147483647) && (decide (-2147483647 ≤ n) && (decide (n ≤ 2147483647) && (Int.gcd n d == 1))))
theorem gcd_ne {n d : Int} (hd : d ≠ 0) : Int.gcd n d ≠ 0 := by
 intro h
 rw [Int.gcd_eq_zero_iff] at h
 exact hd h.2
end Num
end
section
namespace Num
end Num
end
section
namespace Num
open Go
def text (n d : Int) : List UInt8 :=
 if right n d then Lib.itoa n ++ (if d = 1 then [] else 47 :: Lib.itoa d) else []
def nat? (l : List UInt8) : Option Nat := if l.length ≤ 10 then Lib.decNat l else none
def noSlash (b : UInt8) : Bool := b != 47
def lower (l : List UInt8) : List UInt8 := match l.dropWhile noSlash with | [] => [49] | _ :: t => t
def parseU (neg : Bool) (l : List UInt8) : Int × Int × Bool :=
 match nat? (l.takeWhile noSlash), nat? (lower l) with
 | some n, some d => ((mk (if neg then -(n : Int) else n) d).1, (mk (if neg then -(n : Int) else n) d).2.1, decide ((mk (if neg then -(n : Int) else n) d).2.2 = 0))
 | _, _ => (0, 0, false)
def parse (l : List UInt8) : Int × Int × Bool :=
 match l with
 | 45 :: r => parseU true r
 | r => parseU false r
def isDigit (b : UInt8) : Bool := decide (48 ≤ b.toNat) && decide (b.toNat ≤ 57)
end Num
end
section
inductive Dat where
 | mk (kind n d : Int) (s : ByteArray) (l : List Dat)
namespace Dat
open Go
def kind : Dat → Int | mk k _ _ _ _ => k
def n : Dat → Int | mk _ n _ _ _ => n
def d : Dat → Int | mk _ _ d _ _ => d
def s : Dat → ByteArray | mk _ _ _ s _ => s
def l : Dat → List Dat | mk _ _ _ _ l => l
def marks : List UInt8 := [97, 98, 99, 100, 101, 102, 103, 104, 105, 106, 107, 108, 109, 110, 111, 112, 113, 114, 115, 116, 117, 118, 119, 120, 121, 122, 48, 49, 50, 51, 52, 53, 54, 55, 56, 57, 45, 43, 42, 47, 60, 62, 61, 33, 63, 95, 37]
def nameByte (b : UInt8) : Bool := marks.contains b
def name (l : List UInt8) : Bool := decide (1 ≤ l.length) && (decide (l.length ≤ 40) && (l.all nameByte && !(Num.parse l).2.2))
def strByte (b : UInt8) : Bool := decide (32 ≤ b.toNat) && (decide (b.toNat ≤ 126) && (decide (b.toNat ≠ 34) && decide (b.toNat ≠ 92)))
def head (k n d : Int) (s : List UInt8) (len : Nat) : Bool :=
 if k = 0 then Num.right n d && (s.isEmpty && decide (len = 0))
 else if k = 1 then decide (d = 0) && (decide (n = 0 ∨ n = 1) && (s.isEmpty && decide (len = 0)))
 else if k = 2 then decide (d = 0) && (decide (n = 0) && (name s && decide (len = 0)))
 else if k = 3 then decide (d = 0) && (decide (n = 0) && (s.all strByte && decide (len = 0)))
 else if k = 4 ∨ k = 5 then decide (d = 0) && (decide (n = 0) && (s.isEmpty && decide (len = 0)))
 else if k = 6 then decide (d = 0) && (decide (n = 0) && (s.isEmpty && decide (len = 2)))
 else if k = 7 then decide (d = 0) && (decide (n = 0) && s.isEmpty)
 else false
mutual
def right : Dat → Nat → Bool
 | mk k n d s l, deep => decide (deep ≤ 200) && (head k n d s.data.toList l.length && rightL l (deep + 1))
def rightL : List Dat → Nat → Bool
 | [], _ => true
 | x :: l, deep => right x deep && rightL l deep
end
mutual
def size : Dat → Nat → Nat
 | mk _ _ _ _ l, deep => 1 + (if deep < 1000 then sizeL l (deep + 1) else 0)
def sizeL : List Dat → Nat → Nat
 | [], _ => 0
 | x :: l, deep => size x deep + sizeL l deep
end
mutual
def all : Dat → Nat
 | mk _ _ _ _ l => 1 + allL l
def allL : List Dat → Nat
 | [] => 0
 | x :: l => all x + allL l
end
mutual
def alike : Dat → Dat → Bool
 | mk k n d s l, mk k' n' d' s' l' => (decide (k = k') && (decide (n = n') && (decide (d = d') && decide (s = s')))) && alikeL l l'
def alikeL : List Dat → List Dat → Bool
 | [], [] => true
 | x :: l, y :: l' => alike x y && alikeL l l'
 | _, _ => false
end
mutual
def text : Dat → Bool → List UInt8
 | mk k n d s l, tail =>
  if k = 6 then (if tail then 32 :: textP l else 40 :: (textP l ++ [41]))
  else if tail then (if k = 4 then [] else [32, 46, 32] ++ textA k n d s l) else textA k n d s l
def textA (k n d : Int) (s : ByteArray) (l : List Dat) : List UInt8 :=
 if k = 0 then Num.text n d
 else if k = 1 then (if n = 1 then [35, 116] else [35, 102])
 else if k = 2 then s.data.toList
 else if k = 3 then 34 :: (s.data.toList ++ [34])
 else if k = 4 then [40, 41]
 else if k = 5 then [35, 118]
 else [35, 40] ++ (textV l true ++ [41])
def textP : List Dat → List UInt8
 | [a, b] => text a false ++ text b true
 | _ => []
def textV : List Dat → Bool → List UInt8
 | [], _ => []
 | x :: l, first => (if first then [] else [32]) ++ (text x false ++ textV l false)
end
def null : Dat := mk 4 0 0 ⟨#[]⟩ []
def pair (a b : Dat) : Dat := mk 6 0 0 ⟨#[]⟩ [a, b]
def list : List Dat → Dat
 | [] => null
 | x :: l => pair x (list l)
end Dat
end
section
namespace Dat
open Go
theorem ind {P : Dat → Prop} (h : ∀ k n d s l, (∀ x ∈ l, P x) → P (mk k n d s l)) : ∀ x, P x := by
 intro x
 refine Dat.rec (motive_1 := P) (motive_2 := fun l => ∀ x ∈ l, P x) ?_ ?_ ?_ x
 ·intro k n d s l ih; exact h k n d s l ih
 ·intro x hx; cases hx
 ·intro x l hx hl y hy
  rcases List.mem_cons.1 hy with rfl | hy
  ·exact hx
  ·exact hl y hy
theorem all_pos (x : Dat) : 1 ≤ all x := by cases x; simp [all]
theorem all_mem {x : Dat} {l : List Dat} (h : x ∈ l) : all x ≤ allL l := by
 induction l with
 | nil => cases h
 | cons y l ih =>
  simp only [allL]
  rcases List.mem_cons.1 h with rfl | h
  ·omega
  ·have := ih h; omega
theorem rightL_iff (l : List Dat) (deep : Nat) : rightL l deep = true ↔ ∀ x ∈ l, right x deep = true := by
 induction l with
 | nil => simp [rightL]
 | cons x l ih => simp [rightL, ih]
theorem right_less : ∀ x : Dat, ∀ a b, b ≤ a → right x a = true → right x b = true := by
 intro x
 induction x using ind with
 | h k n d s l ih =>
  intro a b hab h
  simp only [right, Bool.and_eq_true, decide_eq_true_eq] at h ⊢
  refine ⟨by omega, h.2.1, ?_⟩
  rw [rightL_iff] at h ⊢
  exact fun x hx => ih x hx (a + 1) (b + 1) (by omega) (h.2.2 x hx)
theorem right_part {x y : Dat} {deep : Nat} (h : right x deep = true) (hy : y ∈ x.l) : right y 0 = true := by
 obtain ⟨k, n, d, s, l⟩ := x
 simp only [right, Bool.and_eq_true, decide_eq_true_eq] at h
 exact right_less y _ 0 (by omega) ((rightL_iff _ _).1 h.2.2 y hy)
end Dat
end
section
namespace Dat
open Go
def emptyB : ByteArray := ⟨#[]⟩
end Dat
end
section
open Go.RowKit
theorem ret_int {k : IntKind} {a b : Int} (h : a = b) : Ending.returned (.int k a) = .returned (.int k b) := by rw [h]
theorem ret_bool {a b : Bool} (h : a = b) : Ending.returned (.bool a) = .returned (.bool b) := by rw [h]
theorem ret_3p {a b c : Int} {p : Int × Int × Int} (h : p = (a, b, c)) : Ending.returned (.tuple #[.int .i64 a, .int .i64 b, .int .i64 c]) = .returned (.tuple #[.int .i64 p.1, .int .i64 p.2.1, .int .i64 p.2.2]) := by
 rw [h]
theorem wrap_neg_u64 (n : Int) (h0 : -9223372036854775808 ≤ n) (h : n < 0) : IntKind.u64.wrap (-IntKind.u64.wrap n) = n.natAbs := by
 simp [IntKind.wrap, IntKind.bits, IntKind.signed]
 omega
theorem amount_any (n : Int) (h0 : -9223372036854775808 ≤ n) (h1 : n ≤ 9223372036854775807) (w : World) :
  Calls Tryd.prog 53 #[.int .i64 n] w fun e w' => e = .returned (.int .u64 n.natAbs) ∧ w = w' := by
 by_cases h : n < 0
 ·go_enter Tryd.func53, Tryd.ntmps53
  go_wp2
  go_ret
  exact ⟨ret_int (wrap_neg_u64 n h0 h), rfl⟩
 ·go_enter Tryd.func53, Tryd.ntmps53
  go_wp2
  go_ret
  exact ⟨ret_int (by omega), rfl⟩
theorem common_nat (a b : Nat) (ha : a ≤ 9223372036854775808) (hb : b ≤ 9223372036854775808) (w : World) :
  Calls Tryd.prog 52 #[.int .u64 a, .int .u64 b] w fun e w' => e = .returned (.int .u64 (Nat.gcd a b : Nat)) ∧ ∃ n, w' = w.drewN n := by
 go_enter Tryd.func52, Tryd.ntmps52
 go_wp2
 go_step3
 go_wp2
 go_step3
 go_wp2
 go_loopw [0, 1] (fun x y wr => ∃ p q : Nat, x = .int .u64 p ∧ y = .int .u64 q ∧ p ≤ 9223372036854775808 ∧ q ≤ 9223372036854775808 ∧ Nat.gcd p q = Nat.gcd a b ∧ ∃ n, wr = w.drewN n) (fun _ y _ => (intOf y).toNat)
 case atStart => exact ⟨a, b, rfl, rfl, ha, hb, rfl, 0, rfl⟩
 case round =>
  obtain ⟨p, q, rfl, rfl, hp, hq, hg, n, rfl⟩ := hrel
  have H := Lib.hid hg
  clear hg
  by_cases hz : q = 0
  ·subst hz
   go_wp2
   rw [Exit.noGoto_ret]
   go_ret
   exact ⟨ret_int (by rw [← H.out]; simp), n, rfl⟩
  ·have hz1 : ((q : Int) == 0) = false := by simpa using hz
   have hlt : p % q < q := Nat.mod_lt _ (by omega)
   have hE := Lib.hid (show Nat.gcd q (p % q) = Nat.gcd a b by rw [Nat.gcd_comm, ← Nat.gcd_rec, Nat.gcd_comm]; exact H.out)
   go_wp2
   go_quiet (fail)
   go_wp2
   go_roundw
   case rel => exact ⟨q, p % q, rfl, by go_num, hq, by omega, hE.out, _, World.drewN_drewN _ _ _⟩
   case measure => simp [intOf]; omega
theorem common_int (a b : Int) (a0 : 0 ≤ a) (ha : a ≤ 9223372036854775808) (b0 : 0 ≤ b) (hb : b ≤ 9223372036854775808) (w : World) :
  Calls Tryd.prog 52 #[.int .u64 a, .int .u64 b] w fun e w' => e = .returned (.int .u64 (Int.gcd a b)) ∧ ∃ n, w' = w.drewN n := by
 obtain ⟨p, rfl⟩ := Int.eq_ofNat_of_zero_le a0
 obtain ⟨q, rfl⟩ := Int.eq_ofNat_of_zero_le b0
 exact common_nat p q (by omega) (by omega) w
theorem gcd_natAbs (n d : Int) : Int.gcd (n.natAbs : Int) d = Int.gcd n d := by simp [Int.gcd]
theorem right_any (n d : Int) (h0 : -9223372036854775808 ≤ n) (h1 : n ≤ 9223372036854775807) (h2 : -9223372036854775808 ≤ d) (h3 : d ≤ 9223372036854775807) (w : World) :
  Calls Tryd.prog 37 #[.int .i64 n, .int .i64 d] w fun e w' => e = .returned (.bool (Num.right n d)) ∧ ∃ k, w' = w.drewN k := by
 go_enter Tryd.func37, Tryd.ntmps37
 go_wp2_with (first | (go_at_call 53; refine (amount_any _ (by omega) (by omega) _).mono ?_; rintro e w' ⟨rfl, rfl⟩) | (go_at_call 52; refine (common_int _ _ (by omega) (by omega) (by omega) (by omega) _).mono ?_; rintro e w' ⟨rfl, k, rfl⟩))
 all_goals go_ret
 ·exact ⟨ret_bool (by rw [gcd_natAbs]; simp [Num.right, *]; rw [Bool.eq_iff_iff]; simp; omega), _, rfl⟩
 all_goals exact ⟨ret_bool (by simp [Num.right]; omega), 0, rfl⟩
end
section
open Go.RowKit
theorem common_to (n d : Int) (G : Nat) (hG : Int.gcd n d = G) (h0 : n.natAbs ≤ 9223372036854775808) (h2 : d.natAbs ≤ 9223372036854775808) (w : World) :
  Calls Tryd.prog 52 #[.int .u64 n.natAbs, .int .u64 d.natAbs] w fun e w' => e = .returned (.int .u64 G) ∧ ∃ n, w' = w.drewN n := by
 refine (common_int _ _ (by omega) (by omega) (by omega) (by omega) w).mono ?_
 rintro e w' ⟨rfl, k⟩
 exact ⟨by rw [← hG]; simp [Int.gcd], k⟩
theorem make_any (n d : Int) (h0 : -9223372036854775808 ≤ n) (h1 : n ≤ 9223372036854775807) (h2 : -9223372036854775808 ≤ d) (h3 : d ≤ 9223372036854775807) (w : World) :
  Calls Tryd.prog 50 #[.int .i64 n, .int .i64 d] w fun e w' => e = .returned (.tuple #[.int .i64 (Num.mk n d).1, .int .i64 (Num.mk n d).2.1, .int .i64 (Num.mk n d).2.2]) ∧ ∃ k, w' = w.drewN k := by
 by_cases hd : d = 0
 ·subst hd
  go_enter Tryd.func50, Tryd.ntmps50
  go_wp2
  go_ret3
  exact ⟨ret_3p rfl, 0, rfl⟩
 ·have hg := Num.gcd_ne (n := n) hd
  have hd0 : (d == 0) = false := by simpa using hd
  obtain ⟨G, hG⟩ : ∃ G, Int.gcd n d = G := ⟨_, rfl⟩
  obtain ⟨A, hA⟩ : ∃ A, n.natAbs / G = A := ⟨_, rfl⟩
  obtain ⟨B, hB⟩ : ∃ B, d.natAbs / G = B := ⟨_, rfl⟩
  rw [hG] at hg
  have HK : Hid (Num.mk n d = if 2147483647 < A ∨ 2147483647 < B then (0, 0, 3) else if n < 0 ↔ d < 0 then ((A : Int), (B : Int), 0) else (-(A : Int), (B : Int), 0)) := Lib.hid (by simp only [Num.mk, hd, if_false, hG, hA, hB])
  have b1 : A ≤ n.natAbs := by rw [← hA]; exact Nat.div_le_self _ _
  have b2 : B ≤ d.natAbs := by rw [← hB]; exact Nat.div_le_self _ _
  have q1 : ((n.natAbs : Int) / (G : Int)) = A := by rw [← hA]; rfl
  have q2 : ((d.natAbs : Int) / (G : Int)) = B := by rw [← hB]; rfl
  have HG := Lib.hid hG
  clear hG hA hB
  have hg0 : ((G : Int) == 0) = false := by simpa using hg
  cases hn : decide (n < 0) <;> cases hm : decide (d < 0)
  all_goals
   have hn2 := hn
   have hm2 := hm
   simp only [decide_eq_true_eq, decide_eq_false_iff_not, Int.not_lt] at hn2 hm2
   go_enter Tryd.func50, Tryd.ntmps50
   go_wp2_with (first | (go_at_call 53; refine (amount_any _ (by omega) (by omega) _).mono ?_; rintro e w' ⟨rfl, rfl⟩) | (go_at_call 52; refine (common_to _ _ G HG.out (by omega) (by omega) _).mono ?_; rintro e w' ⟨rfl, k, rfl⟩))
   go_quiet (fail)
   go_wp2
   all_goals
    go_ret3
    refine ⟨ret_3p (HK.out.trans ?_), by first | exact ⟨0, rfl⟩ | exact ⟨_, rfl⟩⟩
    first
     | (rw [if_pos (by omega)])
     | (rw [if_neg (by omega), if_pos (by omega)])
     | (rw [if_neg (by omega), if_neg (by omega)])
end
section
open Go.RowKit
end
section
open Go.RowKit
end
section
open Go.RowKit
theorem make_to (n d x y z : Int) (hq : Num.mk n d = (x, y, z)) (h0 : -9223372036854775808 ≤ n) (h1 : n ≤ 9223372036854775807) (h2 : -9223372036854775808 ≤ d) (h3 : d ≤ 9223372036854775807) (w : World) :
  Calls Tryd.prog 50 #[.int .i64 n, .int .i64 d] w fun e' w' => e' = .returned (.tuple #[.int .i64 x, .int .i64 y, .int .i64 z]) ∧ ∃ k, w' = w.drewN k := by
 have := make_any n d (by assumption) (by assumption) (by assumption) (by assumption) w
 rw [hq] at this
 exact this
theorem right_to (n d : Int) (x : Bool) (hq : Num.right n d = x) (h0 : -9223372036854775808 ≤ n) (h1 : n ≤ 9223372036854775807) (h2 : -9223372036854775808 ≤ d) (h3 : d ≤ 9223372036854775807) (w : World) :
  Calls Tryd.prog 37 #[.int .i64 n, .int .i64 d] w fun e' w' => e' = .returned (.bool x) ∧ ∃ k, w' = w.drewN k := by
 have := right_any n d (by assumption) (by assumption) (by assumption) (by assumption) w
 rw [hq] at this
 exact this
end
section
structure Ins where
 op : Int
 d : Int
 a : Int
 b : Int
 l : List Int
namespace Unt
def below (n most : Int) : Bool := decide (0 ≤ n) && decide (n < most)
def named (x : Ins) : List Int :=
 if x.op = 1 ∨ x.op = 10 ∨ x.op = 11 ∨ x.op = 14 then [x.a]
 else if x.op = 12 ∨ x.op = 13 then [x.a, x.b]
 else if x.op = 7 ∨ x.op = 9 ∨ x.op = 21 then x.l
 else if x.op = 8 ∨ x.op = 17 ∨ x.op = 19 then x.a :: x.l
 else if x.op = 18 ∨ x.op = 20 then x.b :: x.l
 else if x.op = 16 ∨ x.op = 22 then [x.a]
 else []
def gives (x : Ins) : Int := if x.op ≤ 7 ∨ (9 ≤ x.op ∧ x.op ≤ 11) ∨ x.op = 14 ∨ x.op = 17 ∨ x.op = 18 then x.d else -1
def bare (x : Ins) : Bool :=
 !(decide (gives x < 0) && decide (x.d ≠ 0)) && (!(decide (x.a ≠ 0) && (decide (x.op = 3) || decide (x.op = 4))) && (!(decide (x.b ≠ 0) && (decide (x.op ≠ 12) && (decide (x.op ≠ 13) && (decide (x.op ≠ 16) && (decide (x.op ≠ 18) && decide (x.op ≠ 20)))))) &&
  (decide (x.l.length = 0) || ((decide (7 ≤ x.op) && decide (x.op ≤ 9)) || (decide (17 ≤ x.op) && decide (x.op ≤ 21))))))
end Unt
namespace Unt
end Unt
end
section
namespace Rd
open Go Dat
inductive Res (α : Type) where
 | ok (x : α) (r : List UInt8)
 | bad (r : List UInt8)
def Res.map {α β : Type} (f : α → β) : Res α → Res β
 | .ok x r => .ok (f x) r
 | .bad r => .bad r
def wordsL : List UInt8 := [97, 98, 99, 100, 101, 102, 103, 104, 105, 106, 107, 108, 109, 110, 111, 112, 113, 114, 115, 116, 117, 118, 119, 120, 121, 122, 48, 49, 50, 51, 52, 53, 54, 55, 56, 57, 45, 43, 42, 47, 60, 62, 61, 33, 63, 95]
def mark (b : UInt8) : Bool := wordsL.contains b
def skip : Bool → List UInt8 → List UInt8
 | _, [] => []
 | true, b :: r => if b = 10 then skip false r else skip true r
 | false, b :: r => if b = 59 then skip true r else if b = 32 ∨ b = 10 ∨ b = 9 then skip false r else b :: r
def word (r : List UInt8) : Res Dat :=
 if (Num.parse (r.takeWhile mark)).2.2 then .ok (mk 0 (Num.parse (r.takeWhile mark)).1 (Num.parse (r.takeWhile mark)).2.1 emptyB []) (r.dropWhile mark)
 else if 40 < (r.takeWhile mark).length then .bad r
 else .ok (mk 2 0 0 ⟨(r.takeWhile mark).toArray⟩ []) (r.dropWhile mark)
def str (r : List UInt8) : Res Dat :=
 match r.dropWhile strByte with
 | [] => .bad []
 | b :: t => if b = 34 then .ok (mk 3 0 0 ⟨(r.takeWhile strByte).toArray⟩ []) t else .bad (b :: t)
def quoteD : Dat := mk 2 0 0 ⟨#[113, 117, 111, 116, 101]⟩ []
def quoted (x : Dat) : Dat := list [quoteD, x]
def chain (p : List Dat × Dat) : Dat := p.1.foldr pair p.2
def hashF (S : Bool → Bool → List UInt8 → Res (List Dat × Dat)) (t : List UInt8) : Res Dat :=
 match t with
 | [] => .bad []
 | c :: t' =>
  if c = 116 then .ok (mk 1 1 0 emptyB []) t'
  else if c = 102 then .ok (mk 1 0 0 emptyB []) t'
  else if c = 118 then .ok (mk 5 0 0 emptyB []) t'
  else if c = 40 then (S false false t').map fun p => mk 7 0 0 emptyB p.1
  else .bad (c :: t')
def headF (D : List UInt8 → Res Dat) (S : Bool → Bool → List UInt8 → Res (List Dat × Dat)) (b : UInt8) (t : List UInt8) : Res Dat :=
 if mark b = true then word (b :: t)
 else if b = 34 then str t
 else if b = 39 then (D t).map quoted
 else if b = 35 then hashF S t
 else if b = 40 then (S true false t).map chain
 else .bad (b :: t)
def datF (D : List UInt8 → Res Dat) (S : Bool → Bool → List UInt8 → Res (List Dat × Dat)) (r : List UInt8) : Res Dat :=
 match skip false r with
 | [] => .bad []
 | b :: t => headF D S b t
def shutF (x : Dat) (q : List UInt8) : Res (List Dat × Dat) :=
 match skip false q with
 | [] => .bad []
 | c :: t' => if c = 41 then .ok ([], x) t' else .bad (c :: t')
def pointF (D : List UInt8 → Res Dat) (t : List UInt8) : Res (List Dat × Dat) :=
 match D t with
 | .bad q => .bad q
 | .ok x q => shutF x q
def oneF (D : List UInt8 → Res Dat) (S : List UInt8 → Res (List Dat × Dat)) (r : List UInt8) : Res (List Dat × Dat) :=
 match D r with
 | .bad q => .bad q
 | .ok x q => (S q).map fun p => (x :: p.1, p.2)
def seqH (D : List UInt8 → Res Dat) (S : Bool → Bool → List UInt8 → Res (List Dat × Dat)) (pair any : Bool) (b : UInt8) (t : List UInt8) : Res (List Dat × Dat) :=
 if b = 41 then .ok ([], null) t
 else if b = 46 ∧ pair = true ∧ any = true then pointF D t
 else oneF D (S pair true) (b :: t)
def seqF (D : List UInt8 → Res Dat) (S : Bool → Bool → List UInt8 → Res (List Dat × Dat)) (pair any : Bool) (r : List UInt8) : Res (List Dat × Dat) :=
 match skip false r with
 | [] => .bad []
 | b :: t => seqH D S pair any b t
def both : Nat → (List UInt8 → Res Dat) × (Bool → Bool → List UInt8 → Res (List Dat × Dat))
 | 0 => (fun r => .bad r, fun _ _ r => .bad r)
 | f + 1 => (datF (both f).1 (both f).2, seqF (both f).1 (both f).2)
def D (r : List UInt8) : Res Dat := (both (2 * r.length + 1)).1 r
def S (pair any : Bool) (r : List UInt8) : Res (List Dat × Dat) := (both (2 * r.length + 2)).2 pair any r
def allF : Nat → List UInt8 → Res (List Dat)
 | 0, r => .bad r
 | f + 1, r => match skip false r with
  | [] => .ok [] []
  | b :: t => match D (b :: t) with
   | .bad q => .bad q
   | .ok x q => if right x 0 = true then (allF f q).map (x :: ·) else .bad (b :: t)
def A (r : List UInt8) : Res (List Dat) := allF (r.length + 1) r
theorem skip_suf : ∀ (r : List UInt8) (m : Bool), skip m r <:+ r
 | [], m => by cases m <;> exact List.suffix_refl _
 | b :: r, true => by
  simp only [skip]
  split
  ·exact (skip_suf r false).trans (List.suffix_cons b r)
  ·exact (skip_suf r true).trans (List.suffix_cons b r)
 | b :: r, false => by
  simp only [skip]
  split
  ·exact (skip_suf r true).trans (List.suffix_cons b r)
  split
  ·exact (skip_suf r false).trans (List.suffix_cons b r)
  ·exact List.suffix_refl _
theorem skip_le (r : List UInt8) (m : Bool) : (skip m r).length ≤ r.length := (skip_suf r m).length_le
theorem dropWhile_suf (p : UInt8 → Bool) (r : List UInt8) : r.dropWhile p <:+ r := List.dropWhile_suffix p
def Good {α : Type} (r : List UInt8) : Res α → Prop
 | .ok _ q => q <:+ r ∧ q.length < r.length
 | .bad q => q <:+ r
theorem Good.map {α β : Type} {r : List UInt8} {x : Res α} (h : Good r x) (f : α → β) : Good r (x.map f) := by cases x <;> exact h
theorem Good.more {α : Type} {r r' : List UInt8} {x : Res α} (h : Good r x) (hr : r <:+ r') : Good r' x := by
 have := hr.length_le
 cases x with
 | ok x q => exact ⟨h.1.trans hr, by have := h.2; omega⟩
 | bad q => exact List.IsSuffix.trans h hr
theorem word_good {b : UInt8} {t : List UInt8} (hb : mark b = true) : Good (b :: t) (word (b :: t)) := by
 have h : (b :: t).dropWhile mark <:+ t := by rw [List.dropWhile_cons_of_pos hb]; exact dropWhile_suf _ _
 have hl := h.length_le
 unfold word
 split
 ·exact ⟨dropWhile_suf _ _, by simp only [List.length_cons]; omega⟩
 split
 ·exact List.suffix_refl _
 ·exact ⟨dropWhile_suf _ _, by simp only [List.length_cons]; omega⟩
theorem str_good (r : List UInt8) : Good r (str r) := by
 have h := dropWhile_suf strByte r
 unfold str
 split
 ·exact List.nil_suffix
 ·rename_i b t he
  rw [he] at h
  split
  ·exact ⟨(List.suffix_cons b t).trans h, by have := h.length_le; simp only [List.length_cons] at this; omega⟩
  ·exact h
section
variable {D : List UInt8 → Res Dat} {S : Bool → Bool → List UInt8 → Res (List Dat × Dat)}
theorem hashF_good (hS : ∀ p a t, Good t (S p a t)) (t : List UInt8) : Good t (hashF S t) := by
 unfold hashF
 split
 ·exact List.nil_suffix
 ·rename_i c t'
  have hc : t' <:+ c :: t' := List.suffix_cons c t'
  have hl : t'.length < (c :: t').length := by simp
  repeat' split
  ·exact ⟨hc, hl⟩
  ·exact ⟨hc, hl⟩
  ·exact ⟨hc, hl⟩
  ·exact ((hS false false t').map _).more hc
  ·exact List.suffix_refl _
theorem headF_good (hD : ∀ t, Good t (D t)) (hS : ∀ p a t, Good t (S p a t)) (b : UInt8) (t : List UInt8) : Good (b :: t) (headF D S b t) := by
 have hc : t <:+ b :: t := List.suffix_cons b t
 unfold headF
 split
 ·rename_i hb; exact word_good hb
 repeat' split
 ·exact (str_good t).more hc
 ·exact ((hD t).map _).more hc
 ·exact (hashF_good hS t).more hc
 ·exact ((hS true false t).map _).more hc
 ·exact List.suffix_refl _
theorem datF_good (hD : ∀ t, Good t (D t)) (hS : ∀ p a t, Good t (S p a t)) (r : List UInt8) : Good r (datF D S r) := by
 have h := skip_suf r false
 unfold datF
 split
 ·exact List.nil_suffix
 ·rename_i b t he
  rw [he] at h
  exact (headF_good hD hS b t).more h
theorem shutF_good (x : Dat) (q : List UInt8) : Good q (shutF x q) := by
 have h2 := skip_suf q false
 unfold shutF
 split
 ·exact List.nil_suffix
 ·rename_i c t' hs
  rw [hs] at h2
  have h3 := h2.length_le
  simp only [List.length_cons] at h3
  split
  ·exact ⟨(List.suffix_cons c t').trans h2, by omega⟩
  ·exact h2
theorem pointF_good (hD : ∀ t, Good t (D t)) (t : List UInt8) : Good t (pointF D t) := by
 have h := hD t
 unfold pointF
 split
 ·rename_i q he; rw [he] at h; exact h
 ·rename_i x q he
  rw [he] at h
  exact (shutF_good x q).more h.1
theorem oneF_good {S : List UInt8 → Res (List Dat × Dat)} (hD : ∀ t, Good t (D t)) (hS : ∀ t, Good t (S t)) (r : List UInt8) : Good r (oneF D S r) := by
 have h2 := hD r
 unfold oneF
 split
 ·rename_i q hq; rw [hq] at h2; exact h2
 ·rename_i x q hq
  rw [hq] at h2
  exact ((hS q).map _).more h2.1
theorem seqH_good (hD : ∀ t, Good t (D t)) (hS : ∀ p a t, Good t (S p a t)) (pair any : Bool) (b : UInt8) (t : List UInt8) : Good (b :: t) (seqH D S pair any b t) := by
 have hc : t <:+ b :: t := List.suffix_cons b t
 unfold seqH
 split
 ·exact ⟨hc, by simp⟩
 split
 ·exact (pointF_good hD t).more hc
 ·exact oneF_good hD (hS pair true) _
theorem seqF_good (hD : ∀ t, Good t (D t)) (hS : ∀ p a t, Good t (S p a t)) (pair any : Bool) (r : List UInt8) : Good r (seqF D S pair any r) := by
 have h := skip_suf r false
 unfold seqF
 split
 ·exact List.nil_suffix
 ·rename_i b t he
  rw [he] at h
  exact (seqH_good hD hS pair any b t).more h
end
theorem both_good : ∀ f, (∀ t, Good t ((both f).1 t)) ∧ (∀ p a t, Good t ((both f).2 p a t))
 | 0 => ⟨fun _t => List.suffix_refl _, fun _ _ _t => List.suffix_refl _⟩
 | f + 1 => ⟨datF_good (both_good f).1 (both_good f).2, seqF_good (both_good f).1 (both_good f).2⟩
theorem D_good (r : List UInt8) : Good r (D r) := (both_good _).1 r
section
variable {D D' : List UInt8 → Res Dat} {S S' : Bool → Bool → List UInt8 → Res (List Dat × Dat)}
theorem datF_congr (r : List UInt8) (hD : ∀ t, t.length < r.length → D t = D' t) (hS : ∀ p a t, t.length < r.length → S p a t = S' p a t) : datF D S r = datF D' S' r := by
 have h := skip_le r false
 unfold datF
 split
 ·rfl
 ·rename_i b t he
  rw [he] at h
  simp only [List.length_cons] at h
  unfold headF
  rw [hD t (by omega), hS true false t (by omega)]
  have : hashF S t = hashF S' t := by
   unfold hashF
   split
   ·rfl
   ·rename_i c t'
    rw [hS false false t' (by simp only [List.length_cons] at h; omega)]
  rw [this]
theorem seqF_congr (pair any : Bool) (r : List UInt8) (hg : ∀ t, Good t (D t)) (hD : ∀ t, t.length ≤ r.length → D t = D' t) (hS : ∀ p a t, t.length < r.length → S p a t = S' p a t) : seqF D S pair any r = seqF D' S' pair any r := by
 have h := skip_le r false
 unfold seqF
 split
 ·rfl
 ·rename_i b t he
  rw [he] at h
  simp only [List.length_cons] at h
  have e1 : pointF D t = pointF D' t := by unfold pointF; rw [hD t (by omega)]
  have e2 : oneF D (S pair true) (b :: t) = oneF D' (S' pair true) (b :: t) := by
   unfold oneF
   rw [← hD (b :: t) (by simpa using h)]
   have h2 := hg (b :: t)
   cases hq : D (b :: t) with
   | bad q => rfl
   | ok x q =>
    rw [hq] at h2
    have := h2.2
    simp only [List.length_cons] at this
    simp only [hS pair true q (by omega)]
  unfold seqH
  rw [e1, e2]
end
theorem both_same : ∀ f g, (∀ r, 2 * r.length < f → 2 * r.length < g → (both f).1 r = (both g).1 r) ∧ (∀ p a r, 2 * r.length + 1 < f → 2 * r.length + 1 < g → (both f).2 p a r = (both g).2 p a r)
  | 0, _ => ⟨fun _ h => by omega, fun _ _ _ h => by omega⟩
  | _ + 1, 0 => ⟨fun _ _ h => by omega, fun _ _ _ _ h => by omega⟩
  | f + 1, g + 1 =>
    have ih := both_same f g
    ⟨fun r h1 h2 => datF_congr r (fun t ht => ih.1 t (by omega) (by omega)) (fun p a t ht => ih.2 p a t (by omega) (by omega)),
     fun p a r h1 h2 => seqF_congr p a r (both_good f).1 (fun t ht => ih.1 t (by omega) (by omega)) (fun p a t ht => ih.2 p a t (by omega) (by omega))⟩
theorem both_D {f : Nat} {r : List UInt8} (h : 2 * r.length < f) : (both f).1 r = D r := (both_same _ _).1 r h (by omega)
theorem both_S {f : Nat} {p a : Bool} {r : List UInt8} (h : 2 * r.length + 1 < f) : (both f).2 p a r = S p a r := (both_same _ _).2 p a r h (by omega)
theorem D_eq (r : List UInt8) : D r = datF D S r :=
 datF_congr (D := (both (2 * r.length)).1) (S := (both (2 * r.length)).2) r (fun _ _ => both_D (by omega)) (fun _ _ _ _ => both_S (by omega))
theorem S_eq (p a : Bool) (r : List UInt8) : S p a r = seqF D S p a r :=
 seqF_congr (D := (both (2 * r.length + 1)).1) (S := (both (2 * r.length + 1)).2) p a r (both_good _).1 (fun _ _ => both_D (by omega)) (fun _ _ _ _ => both_S (by omega))
def allG (A : List UInt8 → Res (List Dat)) (r : List UInt8) : Res (List Dat) :=
 match skip false r with
 | [] => .ok [] []
 | b :: t => match D (b :: t) with
  | .bad q => .bad q
  | .ok x q => if right x 0 = true then (A q).map (x :: ·) else .bad (b :: t)
theorem allG_congr {A A' : List UInt8 → Res (List Dat)} (r : List UInt8) (h : ∀ q, q.length < r.length → A q = A' q) : allG A r = allG A' r := by
 have h1 := skip_le r false
 unfold allG
 split
 ·rfl
 ·rename_i b t he
  rw [he] at h1
  have h2 := D_good (b :: t)
  cases hq : D (b :: t) with
  | bad q => rfl
  | ok x q =>
   rw [hq] at h2
   have := h2.2
   simp only [h q (by omega)]
theorem allF_same : ∀ f g r, r.length < f → r.length < g → allF f r = allF g r
 | 0, _, _, h, _ => by omega
 | _ + 1, 0, _, _, h => by omega
 | f + 1, g + 1, r, _, _ => allG_congr r fun q hq => allF_same f g q (by omega) (by omega)
theorem A_eq (r : List UInt8) : A r = allG A r :=
 allG_congr (A := allF r.length) r fun q hq => allF_same _ _ q (by omega) (by omega)
def AllGood {α : Type} (r : List UInt8) : Res α → Prop
 | .ok _ q => q = []
 | .bad q => q <:+ r
theorem allF_good : ∀ f r, AllGood r (allF f r)
 | 0, r => List.suffix_refl _
 | f + 1, r => by
  have h := skip_suf r false
  simp only [allF]
  split
  ·exact rfl
  ·rename_i b t he
   rw [he] at h
   have h2 := D_good (b :: t)
   split
   ·rename_i q hq; rw [hq] at h2; exact List.IsSuffix.trans h2 h
   ·rename_i x q hq
    rw [hq] at h2
    split
    ·have h3 := allF_good f q
     cases hf : allF f q with
     | ok l q' => rw [hf] at h3; exact h3
     | bad q' => rw [hf] at h3; exact List.IsSuffix.trans h3 (h2.1.trans h)
    ·exact h
theorem A_good (r : List UInt8) : AllGood r (A r) := allF_good _ r
end Rd
end
end Go.Proofs.YtpcneeekmhdhgaaDoor
