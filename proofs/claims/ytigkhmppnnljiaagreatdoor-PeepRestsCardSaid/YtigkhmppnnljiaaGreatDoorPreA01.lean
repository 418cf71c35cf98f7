/-
  What the proofs lean on: Plain, Shelf.
-/
import Derived.Lib.ItoaNum
import Derived.Lib.Atoi
import Derived.Lib.AtoiAll
import Derived.Lib.SlTrimSet
import Derived.Shelf.Strings.Trim
import Derived.Shelf.Small.Utf8
import Derived.Shelf.Small.Strs
import Derived.Shelf.Small.Wraps
import Derived.Shelf.Strconv.Atoi
import Derived.Shelf.Strconv.Itoa0
import Derived.Shelf.Strconv.Itoa1
import Derived.Shelf.LaysM
import Derived.Shelf.Strconv.Itoa2
import Derived.Shelf.Strconv.Itoa3
import Derived.Shelf.Strconv.AtoiErrFast
import Derived.Shelf.Strconv.Clone
import Derived.Shelf.Strings.Search1
import Derived.Shelf.Strings.Search2
import Derived.Shelf.Strings.Cut
import Derived.Shelf.Strings.Shaped
import Derived.Shelf.Strings.Prefix
import Derived.Shelf.Strings.Runes
import Derived.Shelf.Strings.AsciiSet
import Derived.Shelf.Unicode.DecodeSlow
import Derived.Ground.Names2Prog
import Derived.Shelf.Slices.Clone
import Derived.Shelf.Strings.SlTrimAscii
import Derived.Test.YtigkhmppnnljiaaGreatDoorProg
set_option maxRecDepth 100000
set_option maxHeartbeats 16000000
namespace Go.Proofs
open Go.Shelf
def Tryz.lays160_ren : Go.Shelf.Ren := ⟨fun | 160 => 135 | 232 => 152 | 231 => 151 | 227 => 153 | 234 => 155 | 233 => 154 | 236 => 157 | 235 => 156 | 228 => 166 | 271 => 169 | 151 => 168 | 197 => 167 | 120 => 176 | 152 => 175 | 260 => 174 | 137 => 158 | 119 => 182 | 224 => 183 | 225 => 184 | 217 => 170 | 266 => 177 | n => n, fun | 9 => 9 | 4 => 4 | 3 => 3 | 5 => 5 | 117 => 179 | 116 => 178 | 0 => 0 | 124 => 182 | 21 => 21 | 105 => 195 | 46 => 207 | 119 => 206 | 139 => 210 | 138 => 209 | n => n, fun | 3 => 0 | 4 => 1 | n => n⟩
theorem Tryz.lays160 : Go.Proofs.Lays.n160 Tryz.prog Tryz.lays160_ren := {
 mixed := by kernel_rfl
 f119 := Tryz.func182.trans (congrArg some (by kernel_rfl))
 f120 := Tryz.func176.trans (congrArg some (by kernel_rfl))
 f137 := Tryz.func158.trans (congrArg some (by kernel_rfl))
 f151 := Tryz.func168.trans (congrArg some (by kernel_rfl))
 f152 := Tryz.func175.trans (congrArg some (by kernel_rfl))
 f160 := Tryz.func135.trans (congrArg some (by kernel_rfl))
 f197 := Tryz.func167.trans (congrArg some (by kernel_rfl))
 f217 := Tryz.func170.trans (congrArg some (by kernel_rfl))
 f224 := Tryz.func183.trans (congrArg some (by kernel_rfl))
 f225 := Tryz.func184.trans (congrArg some (by kernel_rfl))
 f227 := Tryz.func153.trans (congrArg some (by kernel_rfl))
 f228 := Tryz.func166.trans (congrArg some (by kernel_rfl))
 f231 := Tryz.func151.trans (congrArg some (by kernel_rfl))
 f232 := Tryz.func152.trans (congrArg some (by kernel_rfl))
 f233 := Tryz.func154.trans (congrArg some (by kernel_rfl))
 f234 := Tryz.func155.trans (congrArg some (by kernel_rfl))
 f235 := Tryz.func156.trans (congrArg some (by kernel_rfl))
 f236 := Tryz.func157.trans (congrArg some (by kernel_rfl))
 f260 := Tryz.func174.trans (congrArg some (by kernel_rfl))
 f266 := Tryz.func177.trans (congrArg some (by kernel_rfl))
 f271 := Tryz.func169.trans (congrArg some (by kernel_rfl))
 t0 := Tryz.underlying0
 a0 := Tryz.isAgg0
 z0 := Tryz.sizeOf0
 v0 := Tryz.zeroValue0
 t3 := Tryz.underlying3
 a3 := Tryz.isAgg3
 z3 := Tryz.sizeOf3
 v3 := Tryz.zeroValue3
 t4 := Tryz.underlying4
 a4 := Tryz.isAgg4
 z4 := Tryz.sizeOf4
 v4 := Tryz.zeroValue4
 t5 := Tryz.underlying5
 a5 := Tryz.isAgg5
 z5 := Tryz.sizeOf5
 v5 := Tryz.zeroValue5
 t9 := Tryz.underlying9
 a9 := Tryz.isAgg9
 z9 := Tryz.sizeOf9
 v9 := Tryz.zeroValue9
 t21 := Tryz.underlying21
 a21 := Tryz.isAgg21
 z21 := Tryz.sizeOf21
 v21 := Tryz.zeroValue21
 t46 := Tryz.underlying207
 a46 := Tryz.isAgg207
 z46 := Tryz.sizeOf207
 v46 := Tryz.zeroValue207
 t105 := Tryz.underlying195
 a105 := Tryz.isAgg195
 z105 := Tryz.sizeOf195
 v105 := Tryz.zeroValue195
 t116 := Tryz.underlying178
 a116 := Tryz.isAgg178
 z116 := Tryz.sizeOf178
 t117 := Tryz.underlying179
 a117 := Tryz.isAgg179
 z117 := Tryz.sizeOf179
 v117 := Tryz.zeroValue179
 t119 := Tryz.underlying206
 a119 := Tryz.isAgg206
 z119 := Tryz.sizeOf206
 t124 := Tryz.underlying182
 a124 := Tryz.isAgg182
 z124 := Tryz.sizeOf182
 v124 := Tryz.zeroValue182
 t138 := Tryz.underlying209
 a138 := Tryz.isAgg209
 z138 := Tryz.sizeOf209
 v138 := Tryz.zeroValue209
 t139 := Tryz.underlying210
 a139 := Tryz.isAgg210
 z139 := Tryz.sizeOf210
 v139 := Tryz.zeroValue210
 g3 := by kernel_rfl
 g4 := by kernel_rfl }
def Tryz.lays137_ren : Go.Shelf.Ren := ⟨fun | 137 => 158 | 217 => 170 | 266 => 177 | n => n, fun | 9 => 9 | 5 => 5 | 3 => 3 | n => n, fun | n => n⟩
theorem Tryz.lays137 : Go.Proofs.Lays.n137 Tryz.prog Tryz.lays137_ren := {
 mixed := by kernel_rfl
 f137 := Tryz.func158.trans (congrArg some (by kernel_rfl))
 f217 := Tryz.func170.trans (congrArg some (by kernel_rfl))
 f266 := Tryz.func177.trans (congrArg some (by kernel_rfl))
 t3 := Tryz.underlying3
 a3 := Tryz.isAgg3
 z3 := Tryz.sizeOf3
 v3 := Tryz.zeroValue3
 t5 := Tryz.underlying5
 a5 := Tryz.isAgg5
 z5 := Tryz.sizeOf5
 v5 := Tryz.zeroValue5
 t9 := Tryz.underlying9
 a9 := Tryz.isAgg9
 z9 := Tryz.sizeOf9
 v9 := Tryz.zeroValue9 }
open Go.RowKit in
theorem Tryz.strings_IndexByte (s : ByteArray) (c : Int) (w : World) :
  Calls Tryz.prog 158 #[.string s, .int .u8 c] w fun e w' => e = .returned (.int .i64 (Lib.indexByte s.data.toList c.toNat.toUInt8)) ∧ w' = w := Any.strings_IndexByte Tryz.lays137 s c w
def Tryz.lays103_ren : Go.Shelf.Ren := ⟨fun | 103 => 159 | 210 => 171 | 206 => 178 | n => n, fun | 9 => 9 | 4 => 4 | 24 => 184 | 3 => 3 | n => n, fun | n => n⟩
theorem Tryz.lays103 : Go.Proofs.Lays.n103 Tryz.prog Tryz.lays103_ren := {
 mixed := by kernel_rfl
 f103 := Tryz.func159.trans (congrArg some (by kernel_rfl))
 f206 := Tryz.func178.trans (congrArg some (by kernel_rfl))
 f210 := Tryz.func171.trans (congrArg some (by kernel_rfl))
 t3 := Tryz.underlying3
 a3 := Tryz.isAgg3
 z3 := Tryz.sizeOf3
 v3 := Tryz.zeroValue3
 t4 := Tryz.underlying4
 a4 := Tryz.isAgg4
 z4 := Tryz.sizeOf4
 v4 := Tryz.zeroValue4
 t9 := Tryz.underlying9
 a9 := Tryz.isAgg9
 z9 := Tryz.sizeOf9
 v9 := Tryz.zeroValue9
 t24 := Tryz.underlying184
 a24 := Tryz.isAgg184
 z24 := Tryz.sizeOf184
 v24 := Tryz.zeroValue184 }
open Go.RowKit in
theorem Tryz.strings_CutPrefix (s p : ByteArray) (w : World) :
  Calls Tryz.prog 159 #[.string s, .string p] w fun e w' => e = .returned (.tuple #[.string ⟨(Lib.trimPrefix s.data.toList p.data.toList).toArray⟩, .bool (Lib.hasPrefix s.data.toList p.data.toList)]) ∧ w' = w := Any.strings_CutPrefix Tryz.lays103 s p w
def Tryz.lays172_ren : Go.Shelf.Ren := ⟨fun | 172 => 173 | 244 => 180 | 245 => 181 | 247 => 186 | 279 => 187 | 280 => 188 | 281 => 189 | 282 => 190 | 287 => 192 | 316 => 193 | 171 => 195 | 205 => 194 | 321 => 196 | 322 => 197 | 243 => 198 | 246 => 199 | 283 => 200 | 284 => 201 | 285 => 202 | 286 => 203 | 129 => 205 | 317 => 204 | 318 => 206 | 319 => 207 | 320 => 208 | 337 => 209 | 338 => 210 | n => n, fun | 9 => 9 | 3 => 3 | 75 => 199 | 76 => 200 | 4 => 4 | 5 => 5 | 167 => 212 | 37 => 171 | 0 => 0 | 85 => 213 | 2 => 2 | 168 => 215 | 53 => 165 | 175 => 221 | 46 => 207 | 210 => 225 | 127 => 229 | 145 => 232 | 143 => 230 | 21 => 21 | 171 => 234 | 173 => 237 | 212 => 240 | 51 => 218 | 20 => 20 | 213 => 241 | 232 => 244 | 233 => 245 | 80 => 246 | n => n, fun | 15 => 3 | 16 => 4 | 17 => 5 | 18 => 6 | 19 => 7 | n => n⟩
theorem Tryz.lays172 : Go.Proofs.Lays.n172 Tryz.prog Tryz.lays172_ren := {
 mixed := by kernel_rfl
 f129 := Tryz.func205.trans (congrArg some (by kernel_rfl))
 f171 := Tryz.func195.trans (congrArg some (by kernel_rfl))
 f172 := Tryz.func173.trans (congrArg some (by kernel_rfl))
 f205 := Tryz.func194.trans (congrArg some (by kernel_rfl))
 f243 := Tryz.func198.trans (congrArg some (by kernel_rfl))
 f244 := Tryz.func180.trans (congrArg some (by kernel_rfl))
 f245 := Tryz.func181.trans (congrArg some (by kernel_rfl))
 f246 := Tryz.func199.trans (congrArg some (by kernel_rfl))
 f247 := Tryz.func186.trans (congrArg some (by kernel_rfl))
 f279 := Tryz.func187.trans (congrArg some (by kernel_rfl))
 f280 := Tryz.func188.trans (congrArg some (by kernel_rfl))
 f281 := Tryz.func189.trans (congrArg some (by kernel_rfl))
 f282 := Tryz.func190.trans (congrArg some (by kernel_rfl))
 f283 := Tryz.func200.trans (congrArg some (by kernel_rfl))
 f284 := Tryz.func201.trans (congrArg some (by kernel_rfl))
 f285 := Tryz.func202.trans (congrArg some (by kernel_rfl))
 f286 := Tryz.func203.trans (congrArg some (by kernel_rfl))
 f287 := Tryz.func192.trans (congrArg some (by kernel_rfl))
 f316 := Tryz.func193.trans (congrArg some (by kernel_rfl))
 f317 := Tryz.func204.trans (congrArg some (by kernel_rfl))
 f318 := Tryz.func206.trans (congrArg some (by kernel_rfl))
 f319 := Tryz.func207.trans (congrArg some (by kernel_rfl))
 f320 := Tryz.func208.trans (congrArg some (by kernel_rfl))
 f321 := Tryz.func196.trans (congrArg some (by kernel_rfl))
 f322 := Tryz.func197.trans (congrArg some (by kernel_rfl))
 f337 := Tryz.func209.trans (congrArg some (by kernel_rfl))
 f338 := Tryz.func210.trans (congrArg some (by kernel_rfl))
 t0 := Tryz.underlying0
 a0 := Tryz.isAgg0
 z0 := Tryz.sizeOf0
 v0 := Tryz.zeroValue0
 t2 := Tryz.underlying2
 a2 := Tryz.isAgg2
 z2 := Tryz.sizeOf2
 v2 := Tryz.zeroValue2
 t3 := Tryz.underlying3
 a3 := Tryz.isAgg3
 z3 := Tryz.sizeOf3
 v3 := Tryz.zeroValue3
 t4 := Tryz.underlying4
 a4 := Tryz.isAgg4
 z4 := Tryz.sizeOf4
 v4 := Tryz.zeroValue4
 t5 := Tryz.underlying5
 a5 := Tryz.isAgg5
 z5 := Tryz.sizeOf5
 v5 := Tryz.zeroValue5
 t9 := Tryz.underlying9
 a9 := Tryz.isAgg9
 z9 := Tryz.sizeOf9
 v9 := Tryz.zeroValue9
 t20 := Tryz.underlying20
 a20 := Tryz.isAgg20
 z20 := Tryz.sizeOf20
 v20 := Tryz.zeroValue20
 t21 := Tryz.underlying21
 a21 := Tryz.isAgg21
 z21 := Tryz.sizeOf21
 v21 := Tryz.zeroValue21
 t37 := Tryz.underlying171
 a37 := Tryz.isAgg171
 z37 := Tryz.sizeOf171
 v37 := Tryz.zeroValue171
 t46 := Tryz.underlying207
 a46 := Tryz.isAgg207
 z46 := Tryz.sizeOf207
 v46 := Tryz.zeroValue207
 t51 := Tryz.underlying218
 a51 := Tryz.isAgg218
 z51 := Tryz.sizeOf218
 v51 := Tryz.zeroValue218
 t53 := Tryz.underlying165
 a53 := Tryz.isAgg165
 z53 := Tryz.sizeOf165
 v53 := Tryz.zeroValue165
 t75 := Tryz.underlying199
 a75 := Tryz.isAgg199
 z75 := Tryz.sizeOf199
 v75 := Tryz.zeroValue199
 t76 := Tryz.underlying200
 a76 := Tryz.isAgg200
 z76 := Tryz.sizeOf200
 v76 := Tryz.zeroValue200
 t85 := Tryz.underlying213
 a85 := Tryz.isAgg213
 z85 := Tryz.sizeOf213
 v85 := Tryz.zeroValue213
 t127 := Tryz.underlying229
 a127 := Tryz.isAgg229
 z127 := Tryz.sizeOf229
 v127 := Tryz.zeroValue229
 t143 := Tryz.underlying230
 a143 := Tryz.isAgg230
 z143 := Tryz.sizeOf230
 v143 := Tryz.zeroValue230
 t145 := Tryz.underlying232
 a145 := Tryz.isAgg232
 z145 := Tryz.sizeOf232
 v145 := Tryz.zeroValue232
 t167 := Tryz.underlying212
 a167 := Tryz.isAgg212
 z167 := Tryz.sizeOf212
 v167 := Tryz.zeroValue212
 t168 := Tryz.underlying215
 a168 := Tryz.isAgg215
 z168 := Tryz.sizeOf215
 v168 := Tryz.zeroValue215
 t171 := Tryz.underlying234
 a171 := Tryz.isAgg234
 z171 := Tryz.sizeOf234
 v171 := Tryz.zeroValue234
 t173 := Tryz.underlying237
 a173 := Tryz.isAgg237
 z173 := Tryz.sizeOf237
 v173 := Tryz.zeroValue237
 t175 := Tryz.underlying221
 a175 := Tryz.isAgg221
 z175 := Tryz.sizeOf221
 v175 := Tryz.zeroValue221
 t210 := Tryz.underlying225
 a210 := Tryz.isAgg225
 z210 := Tryz.sizeOf225
 v210 := Tryz.zeroValue225
 t212 := Tryz.underlying240
 a212 := Tryz.isAgg240
 z212 := Tryz.sizeOf240
 v212 := Tryz.zeroValue240
 t213 := Tryz.underlying241
 a213 := Tryz.isAgg241
 z213 := Tryz.sizeOf241
 t232 := Tryz.underlying244
 a232 := Tryz.isAgg244
 z232 := Tryz.sizeOf244
 v232 := Tryz.zeroValue244
 t233 := Tryz.underlying245
 a233 := Tryz.isAgg245
 z233 := Tryz.sizeOf245
 v233 := Tryz.zeroValue245
 g15 := by kernel_rfl
 g16 := by kernel_rfl
 g17 := by kernel_rfl
 g18 := by kernel_rfl
 g19 := by kernel_rfl }
open Go.RowKit in
theorem Tryz.strconv_Atoi (s : ByteArray) (n : Int) (hl : s.size ≤ 18) (h : Lib.atoi s.data.toList = some n) (w : World) :
  Calls Tryz.prog 173 #[.string s] w fun e w' => e = .returned (.tuple #[.int .i64 n, .nilIface]) ∧ ∃ t, w' = Lib.bytesWorld w 5 t := Any.strconv_Atoi Tryz.lays172 s n hl h w
def Tryz.lays219_ren : Go.Shelf.Ren := ⟨fun | 219 => 179 | 217 => 170 | 225 => 184 | 224 => 183 | 267 => 185 | 266 => 177 | 314 => 191 | n => n, fun | 9 => 9 | 3 => 3 | 4 => 4 | 5 => 5 | 46 => 207 | 146 => 219 | 51 => 218 | n => n, fun | 1 => 2 | n => n⟩
theorem Tryz.lays219 : Go.Proofs.Lays.n219 Tryz.prog Tryz.lays219_ren := {
 mixed := by kernel_rfl
 f217 := Tryz.func170.trans (congrArg some (by kernel_rfl))
 f219 := Tryz.func179.trans (congrArg some (by kernel_rfl))
 f224 := Tryz.func183.trans (congrArg some (by kernel_rfl))
 f225 := Tryz.func184.trans (congrArg some (by kernel_rfl))
 f266 := Tryz.func177.trans (congrArg some (by kernel_rfl))
 f267 := Tryz.func185.trans (congrArg some (by kernel_rfl))
 f314 := Tryz.func191.trans (congrArg some (by kernel_rfl))
 t3 := Tryz.underlying3
 a3 := Tryz.isAgg3
 z3 := Tryz.sizeOf3
 v3 := Tryz.zeroValue3
 t4 := Tryz.underlying4
 a4 := Tryz.isAgg4
 z4 := Tryz.sizeOf4
 v4 := Tryz.zeroValue4
 t5 := Tryz.underlying5
 a5 := Tryz.isAgg5
 z5 := Tryz.sizeOf5
 v5 := Tryz.zeroValue5
 t9 := Tryz.underlying9
 a9 := Tryz.isAgg9
 z9 := Tryz.sizeOf9
 v9 := Tryz.zeroValue9
 t46 := Tryz.underlying207
 a46 := Tryz.isAgg207
 z46 := Tryz.sizeOf207
 v46 := Tryz.zeroValue207
 t51 := Tryz.underlying218
 a51 := Tryz.isAgg218
 z51 := Tryz.sizeOf218
 v51 := Tryz.zeroValue218
 t146 := Tryz.underlying219
 a146 := Tryz.isAgg219
 z146 := Tryz.sizeOf219
 v146 := Tryz.zeroValue219
 g1 := by kernel_rfl }
open Go.RowKit Go.Lib in
theorem Tryz.stringslite_Index_one (s : ByteArray) (c : UInt8) (w : World) :
  Calls Tryz.prog 179 #[.string s, .string ⟨#[c]⟩] w fun e w' => e = .returned (.int .i64 (Lib.indexByte s.data.toList c)) ∧ w' = w := Any.stringslite_Index_one Tryz.lays219 s c w
end Go.Proofs
namespace Go.Proofs.YtigkhmppnnljiaaGreatDoor
section
namespace Num
def mk (n d : Int) : Int × Int × Int :=
 if d = 0 then (0, 0, 4) else
 if 2147483647 < n.natAbs / Int.gcd n d ∨ 2147483647 < d.natAbs / Int.gcd n d then (0, 0, 3) else
 if n < 0 ↔ d < 0 then (((n.natAbs / Int.gcd n d : Nat) : Int), ((d.natAbs / Int.gcd n d : Nat) : Int), 0)
 else (-((n.natAbs / Int.gcd n d : Nat) : Int), ((d.natAbs / Int.gcd n d : Nat) : Int), 0)
def right (n d : Int) : Bool :=
 decide (1 ≤ d) && (decide (d ≤ 2147483647) && (decide (-2147483647 ≤ n) && (decide (n ≤ 2147483647) && (Int.gcd n d == 1))))
def sub (n d m e : Int) : Int × Int × Int := if right n d && right m e then mk (n * e - m * d) (d * e) else (0, 0, 3)
def less (n d m e : Int) : Bool := right n d && right m e && decide (n * e < m * d)
theorem gcd_ne {n d : Int} (hd : d ≠ 0) : Int.gcd n d ≠ 0 := by
 intro h
 rw [Int.gcd_eq_zero_iff] at h
 exact hd h.2
end Num
end
section
namespace Num
end Num
end
section
namespace Num
open Go
def text (n d : Int) : List UInt8 :=
 if right n d then Lib.itoa n ++ (if d = 1 then [] else 47 :: Lib.itoa d) else []
def nat? (l : List UInt8) : Option Nat := if l.length ≤ 10 then Lib.decNat l else none
def noSlash (b : UInt8) : Bool := b != 47
def lower (l : List UInt8) : List UInt8 := match l.dropWhile noSlash with | [] => [49] | _ :: t => t
def parseU (neg : Bool) (l : List UInt8) : Int × Int × Bool :=
 match nat? (l.takeWhile noSlash), nat? (lower l) with
 | some n, some d => ((mk (if neg then -(n : Int) else n) d).1, (mk (if neg then -(n : Int) else n) d).2.1, decide ((mk (if neg then -(n : Int) else n) d).2.2 = 0))
 | _, _ => (0, 0, false)
def parse (l : List UInt8) : Int × Int × Bool :=
 match l with
 | 45 :: r => parseU true r
 | r => parseU false r
def isDigit (b : UInt8) : Bool := decide (48 ≤ b.toNat) && decide (b.toNat ≤ 57)
theorem noSlash_of_digit {b : UInt8} (h : isDigit b = true) : noSlash b = true := by
 simp only [isDigit, Bool.and_eq_true, decide_eq_true_eq] at h
 simp only [noSlash, bne_iff_ne, ne_eq]
 rintro rfl
 simp at h
end Num
end
section
inductive Dat where
 | mk (kind n d : Int) (s : ByteArray) (l : List Dat)
namespace Dat
open Go
def kind : Dat → Int | mk k _ _ _ _ => k
def n : Dat → Int | mk _ n _ _ _ => n
def d : Dat → Int | mk _ _ d _ _ => d
def s : Dat → ByteArray | mk _ _ _ s _ => s
def l : Dat → List Dat | mk _ _ _ _ l => l
def marks : List UInt8 := [97, 98, 99, 100, 101, 102, 103, 104, 105, 106, 107, 108, 109, 110, 111, 112, 113, 114, 115, 116, 117, 118, 119, 120, 121, 122, 48, 49, 50, 51, 52, 53, 54, 55, 56, 57, 45, 43, 42, 47, 60, 62, 61, 33, 63, 95, 37]
def nameByte (b : UInt8) : Bool := marks.contains b
def name (l : List UInt8) : Bool := decide (1 ≤ l.length) && (decide (l.length ≤ 40) && (l.all nameByte && !(Num.parse l).2.2))
def strByte (b : UInt8) : Bool := decide (32 ≤ b.toNat) && (decide (b.toNat ≤ 126) && (decide (b.toNat ≠ 34) && decide (b.toNat ≠ 92)))
def head (k n d : Int) (s : List UInt8) (len : Nat) : Bool :=
 if k = 0 then Num.right n d && (s.isEmpty && decide (len = 0))
 else if k = 1 then decide (d = 0) && (decide (n = 0 ∨ n = 1) && (s.isEmpty && decide (len = 0)))
 else if k = 2 then decide (d = 0) && (decide (n = 0) && (name s && decide (len = 0)))
 else if k = 3 then decide (d = 0) && (decide (n = 0) && (s.all strByte && decide (len = 0)))
 else if k = 4 ∨ k = 5 then decide (d = 0) && (decide (n = 0) && (s.isEmpty && decide (len = 0)))
 else if k = 6 then decide (d = 0) && (decide (n = 0) && (s.isEmpty && decide (len = 2)))
 else if k = 7 then decide (d = 0) && (decide (n = 0) && s.isEmpty)
 else false
mutual
def right : Dat → Nat → Bool
 | mk k n d s l, deep => decide (deep ≤ 200) && (head k n d s.data.toList l.length && rightL l (deep + 1))
def rightL : List Dat → Nat → Bool
 | [], _ => true
 | x :: l, deep => right x deep && rightL l deep
end
mutual
def few : Dat → Int → Int
 | mk _ _ _ _ l, left => fewL l (left - 1)
def fewL : List Dat → Int → Int
 | [], left => left
 | x :: l, left => if 0 ≤ left then fewL l (few x left) else left
end
mutual
def size : Dat → Nat → Nat
 | mk _ _ _ _ l, deep => 1 + (if deep < 1000 then sizeL l (deep + 1) else 0)
def sizeL : List Dat → Nat → Nat
 | [], _ => 0
 | x :: l, deep => size x deep + sizeL l deep
end
mutual
def all : Dat → Nat
 | mk _ _ _ _ l => 1 + allL l
def allL : List Dat → Nat
 | [] => 0
 | x :: l => all x + allL l
end
mutual
def alike : Dat → Dat → Bool
 | mk k n d s l, mk k' n' d' s' l' => (decide (k = k') && (decide (n = n') && (decide (d = d') && decide (s = s')))) && alikeL l l'
def alikeL : List Dat → List Dat → Bool
 | [], [] => true
 | x :: l, y :: l' => alike x y && alikeL l l'
 | _, _ => false
end
mutual
def text : Dat → Bool → List UInt8
 | mk k n d s l, tail =>
  if k = 6 then (if tail then 32 :: textP l else 40 :: (textP l ++ [41]))
  else if tail then (if k = 4 then [] else [32, 46, 32] ++ textA k n d s l) else textA k n d s l
def textA (k n d : Int) (s : ByteArray) (l : List Dat) : List UInt8 :=
 if k = 0 then Num.text n d
 else if k = 1 then (if n = 1 then [35, 116] else [35, 102])
 else if k = 2 then s.data.toList
 else if k = 3 then 34 :: (s.data.toList ++ [34])
 else if k = 4 then [40, 41]
 else if k = 5 then [35, 118]
 else [35, 40] ++ (textV l true ++ [41])
def textP : List Dat → List UInt8
 | [a, b] => text a false ++ text b true
 | _ => []
def textV : List Dat → Bool → List UInt8
 | [], _ => []
 | x :: l, first => (if first then [] else [32]) ++ (text x false ++ textV l false)
end
def null : Dat := mk 4 0 0 ⟨#[]⟩ []
def pair (a b : Dat) : Dat := mk 6 0 0 ⟨#[]⟩ [a, b]
def list : List Dat → Dat
 | [] => null
 | x :: l => pair x (list l)
end Dat
end
section
namespace Dat
open Go
theorem ind {P : Dat → Prop} (h : ∀ k n d s l, (∀ x ∈ l, P x) → P (mk k n d s l)) : ∀ x, P x := by
 intro x
 refine Dat.rec (motive_1 := P) (motive_2 := fun l => ∀ x ∈ l, P x) ?_ ?_ ?_ x
 ·intro k n d s l ih; exact h k n d s l ih
 ·intro x hx; cases hx
 ·intro x l hx hl y hy
  rcases List.mem_cons.1 hy with rfl | hy
  ·exact hx
  ·exact hl y hy
theorem all_pos (x : Dat) : 1 ≤ all x := by cases x; simp [all]
theorem few_both : ∀ x : Dat, ∀ left : Int, ((all x : Int) ≤ left → few x left = left - all x) ∧ (left < all x → few x left < 0) := by
 have hL : ∀ l : List Dat, (∀ x ∈ l, ∀ left : Int, ((all x : Int) ≤ left → few x left = left - all x) ∧ (left < all x → few x left < 0)) →
   ∀ left : Int, ((allL l : Int) ≤ left → fewL l left = left - allL l) ∧ (left < allL l → fewL l left < 0) := by
  intro l
  induction l with
  | nil => intro _ left; simp [fewL, allL]
  | cons x l ih =>
   intro h left
   have ih := ih (fun y hy => h y (by simp [hy]))
   have hx := h x (by simp) left
   have hp := all_pos x
   constructor
   ·intro hle
    simp only [allL] at hle
    rw [fewL, if_pos (by omega), hx.1 (by omega), (ih _).1 (by omega)]
    simp only [allL]; omega
   ·intro hlt
    simp only [allL] at hlt
    rw [fewL]
    split
    ·by_cases hc : left < all x
     ·have := hx.2 hc
      have e : fewL l (few x left) = few x left := by
       cases l with
       | nil => rfl
       | cons y l => rw [fewL, if_neg (by omega)]
      omega
     ·rw [hx.1 (by omega)]
      exact (ih _).2 (by omega)
    ·omega
 intro x
 induction x using ind with
 | h k n d s l ih =>
  intro left
  have := hL l ih (left - 1)
  simp only [few, all]
  constructor
  ·intro h; rw [this.1 (by omega)]; omega
  ·intro h; exact this.2 (by omega)
theorem few_iff (x : Dat) (left : Int) : 0 ≤ few x left ↔ (all x : Int) ≤ left := by
 have := few_both x left
 constructor
 ·intro h
  apply Decidable.byContradiction
  intro hc
  have := this.2 (by omega)
  omega
 ·intro h; rw [this.1 h]; omega
theorem few_le (x : Dat) (left : Int) : few x left ≤ left - 1 ∨ few x left < 0 := by
 have := few_both x left
 have hp := all_pos x
 by_cases h : (all x : Int) ≤ left
 ·rw [this.1 h]; omega
 ·exact .inr (this.2 (by omega))
theorem alike_iff : ∀ x y : Dat, alike x y = true ↔ x = y := by
 intro x
 induction x using ind with
 | h k n d s l ih =>
  intro y
  obtain ⟨k', n', d', s', l'⟩ := y
  have hL : ∀ l : List Dat, (∀ x ∈ l, ∀ y : Dat, alike x y = true ↔ x = y) → ∀ l', alikeL l l' = true ↔ l = l' := by
   intro l
   induction l with
   | nil => intro _ l'; cases l' <;> simp [alikeL]
   | cons x l ih =>
    intro h l'
    cases l' with
    | nil => simp [alikeL]
    | cons y l' =>
     simp only [alikeL, Bool.and_eq_true, List.cons.injEq]
     rw [h x (by simp) y, ih (fun z hz => h z (by simp [hz])) l']
  simp only [alike, Bool.and_eq_true, decide_eq_true_eq, hL l ih l', mk.injEq]
  constructor
  ·rintro ⟨⟨a, b, c, d⟩, e⟩; exact ⟨a, b, c, d, e⟩
  ·rintro ⟨a, b, c, d, e⟩; exact ⟨⟨a, b, c, d⟩, e⟩
theorem alike_self (x : Dat) : alike x x = true := (alike_iff x x).2 rfl
end Dat
end
section
namespace Dat
open Go
def opens (b : UInt8) : Prop := b ≠ 46 ∧ b ≠ 41
end Dat
end
end Go.Proofs.YtigkhmppnnljiaaGreatDoor
