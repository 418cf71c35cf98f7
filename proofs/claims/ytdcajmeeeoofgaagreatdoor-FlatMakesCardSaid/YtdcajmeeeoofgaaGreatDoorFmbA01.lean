/- .. -/
import Derived.Lib.ItoaNum
import Derived.Lib.Atoi
import Derived.Lib.AtoiAll
import Derived.Lib.SlTrimSet
import Derived.Shelf.Strings.Trim
import Derived.Shelf.Small.Utf8
import Derived.Shelf.Small.Strs
import Derived.Shelf.Small.Wraps
import Derived.Shelf.Strconv.Atoi
import Derived.Shelf.Strconv.Itoa0
import Derived.Shelf.Strconv.Itoa1
import Derived.Shelf.LaysM
import Derived.Shelf.Strconv.Itoa2
import Derived.Shelf.Strconv.Itoa3
import Derived.Shelf.Strconv.AtoiErrFast
import Derived.Shelf.Strconv.Clone
import Derived.Shelf.Strings.Search1
import Derived.Shelf.Strings.Search2
import Derived.Shelf.Strings.Cut
import Derived.Shelf.Strings.Shaped
import Derived.Shelf.Strings.Prefix
import Derived.Shelf.Strings.Runes
import Derived.Shelf.Strings.AsciiSet
import Derived.Shelf.Unicode.DecodeSlow
import Derived.Shelf.Strings.SlTrimAscii
import Derived.Test.YtdcajmeeeoofgaaGreatDoorProg
import Derived.WalkKit
import Derived.ProofKit
import Derived.BigQuiet
import Derived.Deep.QuietTactic
import Derived.Lib.Hide
import Derived.IntWalk
import Derived.Lib.LaidTab
import Derived.Lib.AppendIntMem
import Derived.Lib.ItoaLen
import Derived.Below
import Derived.WalkSpells
theorem Go.Proofs.YtdcajmeeeoofgaaGreatDoor.zh {p : Prop} (h : p) : Go.RowKit.Hid p := h
open Go.Proofs.Tryz
set_option maxRecDepth 100000
set_option maxHeartbeats 16000000
namespace Go.Proofs
open Go.Shelf
def Tryz.lays160_ren:Go.Shelf.Ren:=⟨fun | 160=>101 | 232=>109 | 231=>108 | 227=>110 | 234=>112 | 233=>111 | 236=>114 | 235=>113 | 228=>122 | 271=>125 | 151=>124 | 197=>123 | 120=>132 | 152=>131 | 260=>130 | 137=>115 | 119=>138 | 224=>139 | 225=>140 | 217=>126 | 266=>133 | n=>n,fun | 9=>9 | 4=>4 | 3=>3 | 5=>5 | 117=>143 | 116=>142 | 0=>0 | 124=>146 | 21=>21 | 105=>159 | 46=>171 | 119=>170 | 139=>174 | 138=>173 | n=>n,fun | 3=>0 | 4=>1 | n=>n⟩
theorem Tryz.lays160:Go.Proofs.Lays.n160 prog lays160_ren:={
 mixed:=by kernel_rfl
 f119:=func138.trans (congrArg some (by kernel_rfl))
 f120:=func132.trans (congrArg some (by kernel_rfl))
 f137:=func115.trans (congrArg some (by kernel_rfl))
 f151:=func124.trans (congrArg some (by kernel_rfl))
 f152:=func131.trans (congrArg some (by kernel_rfl))
 f160:=func101.trans (congrArg some (by kernel_rfl))
 f197:=func123.trans (congrArg some (by kernel_rfl))
 f217:=func126.trans (congrArg some (by kernel_rfl))
 f224:=func139.trans (congrArg some (by kernel_rfl))
 f225:=func140.trans (congrArg some (by kernel_rfl))
 f227:=func110.trans (congrArg some (by kernel_rfl))
 f228:=func122.trans (congrArg some (by kernel_rfl))
 f231:=func108.trans (congrArg some (by kernel_rfl))
 f232:=func109.trans (congrArg some (by kernel_rfl))
 f233:=func111.trans (congrArg some (by kernel_rfl))
 f234:=func112.trans (congrArg some (by kernel_rfl))
 f235:=func113.trans (congrArg some (by kernel_rfl))
 f236:=func114.trans (congrArg some (by kernel_rfl))
 f260:=func130.trans (congrArg some (by kernel_rfl))
 f266:=func133.trans (congrArg some (by kernel_rfl))
 f271:=func125.trans (congrArg some (by kernel_rfl))
 t0:=underlying0
 a0:=isAgg0
 z0:=sizeOf0
 v0:=zeroValue0
 t3:=underlying3
 a3:=isAgg3
 z3:=sizeOf3
 v3:=zeroValue3
 t4:=underlying4
 a4:=isAgg4
 z4:=sizeOf4
 v4:=zeroValue4
 t5:=underlying5
 a5:=isAgg5
 z5:=sizeOf5
 v5:=zeroValue5
 t9:=underlying9
 a9:=isAgg9
 z9:=sizeOf9
 v9:=zeroValue9
 t21:=underlying21
 a21:=isAgg21
 z21:=sizeOf21
 v21:=zeroValue21
 t46:=underlying171
 a46:=isAgg171
 z46:=sizeOf171
 v46:=zeroValue171
 t105:=underlying159
 a105:=isAgg159
 z105:=sizeOf159
 v105:=zeroValue159
 t116:=underlying142
 a116:=isAgg142
 z116:=sizeOf142
 t117:=underlying143
 a117:=isAgg143
 z117:=sizeOf143
 v117:=zeroValue143
 t119:=underlying170
 a119:=isAgg170
 z119:=sizeOf170
 t124:=underlying146
 a124:=isAgg146
 z124:=sizeOf146
 v124:=zeroValue146
 t138:=underlying173
 a138:=isAgg173
 z138:=sizeOf173
 v138:=zeroValue173
 t139:=underlying174
 a139:=isAgg174
 z139:=sizeOf174
 v139:=zeroValue174
 g3:=by kernel_rfl
 g4:=by kernel_rfl }
def Tryz.lays137_ren:Go.Shelf.Ren:=⟨fun | 137=>115 | 217=>126 | 266=>133 | n=>n,fun | 9=>9 | 5=>5 | 3=>3 | n=>n,fun | n=>n⟩
theorem Tryz.lays137:Go.Proofs.Lays.n137 prog lays137_ren:={
 mixed:=by kernel_rfl
 f137:=func115.trans (congrArg some (by kernel_rfl))
 f217:=func126.trans (congrArg some (by kernel_rfl))
 f266:=func133.trans (congrArg some (by kernel_rfl))
 t3:=underlying3
 a3:=isAgg3
 z3:=sizeOf3
 v3:=zeroValue3
 t5:=underlying5
 a5:=isAgg5
 z5:=sizeOf5
 v5:=zeroValue5
 t9:=underlying9
 a9:=isAgg9
 z9:=sizeOf9
 v9:=zeroValue9 }
open Go.RowKit in
theorem Tryz.strings_IndexByte (s:ByteArray) (c:Int) (w:World) :
  Calls prog 115 #[.string s,.int .u8 c] w fun e w'=>e=.returned (.int .i64 (Lib.indexByte s.data.toList c.toNat.toUInt8))∧w'=w:=Any.strings_IndexByte lays137 s c w
def Tryz.lays103_ren:Go.Shelf.Ren:=⟨fun | 103=>116 | 210=>127 | 206=>134 | n=>n,fun | 9=>9 | 4=>4 | 24=>148 | 3=>3 | n=>n,fun | n=>n⟩
theorem Tryz.lays103:Go.Proofs.Lays.n103 prog lays103_ren:={
 mixed:=by kernel_rfl
 f103:=func116.trans (congrArg some (by kernel_rfl))
 f206:=func134.trans (congrArg some (by kernel_rfl))
 f210:=func127.trans (congrArg some (by kernel_rfl))
 t3:=underlying3
 a3:=isAgg3
 z3:=sizeOf3
 v3:=zeroValue3
 t4:=underlying4
 a4:=isAgg4
 z4:=sizeOf4
 v4:=zeroValue4
 t9:=underlying9
 a9:=isAgg9
 z9:=sizeOf9
 v9:=zeroValue9
 t24:=underlying148
 a24:=isAgg148
 z24:=sizeOf148
 v24:=zeroValue148 }
open Go.RowKit in
theorem Tryz.strings_CutPrefix (s p:ByteArray) (w:World) :
  Calls prog 116 #[.string s,.string p] w fun e w'=>e=.returned (.tuple #[.string ⟨(Lib.trimPrefix s.data.toList p.data.toList).toArray⟩,.bool (Lib.hasPrefix s.data.toList p.data.toList)])∧w'=w:=Any.strings_CutPrefix lays103 s p w
def Tryz.lays172_ren:Go.Shelf.Ren:=⟨fun | 172=>129 | 244=>136 | 245=>137 | 247=>142 | 279=>143 | 280=>144 | 281=>145 | 282=>146 | 287=>148 | 316=>149 | 171=>151 | 205=>150 | 321=>152 | 322=>153 | 243=>154 | 246=>155 | 283=>156 | 284=>157 | 285=>158 | 286=>159 | 129=>161 | 317=>160 | 318=>162 | 319=>163 | 320=>164 | 337=>165 | 338=>166 | n=>n,fun | 9=>9 | 3=>3 | 75=>163 | 76=>164 | 4=>4 | 5=>5 | 167=>176 | 37=>139 | 0=>0 | 85=>177 | 2=>2 | 168=>179 | 53=>133 | 175=>185 | 46=>171 | 210=>189 | 127=>193 | 145=>196 | 143=>194 | 21=>21 | 171=>198 | 173=>201 | 212=>204 | 51=>182 | 20=>20 | 213=>205 | 232=>208 | 233=>209 | 80=>210 | n=>n,fun | 15=>3 | 16=>4 | 17=>5 | 18=>6 | 19=>7 | n=>n⟩
theorem Tryz.lays172:Go.Proofs.Lays.n172 prog lays172_ren:={
 mixed:=by kernel_rfl
 f129:=func161.trans (congrArg some (by kernel_rfl))
 f171:=func151.trans (congrArg some (by kernel_rfl))
 f172:=func129.trans (congrArg some (by kernel_rfl))
 f205:=func150.trans (congrArg some (by kernel_rfl))
 f243:=func154.trans (congrArg some (by kernel_rfl))
 f244:=func136.trans (congrArg some (by kernel_rfl))
 f245:=func137.trans (congrArg some (by kernel_rfl))
 f246:=func155.trans (congrArg some (by kernel_rfl))
 f247:=func142.trans (congrArg some (by kernel_rfl))
 f279:=func143.trans (congrArg some (by kernel_rfl))
 f280:=func144.trans (congrArg some (by kernel_rfl))
 f281:=func145.trans (congrArg some (by kernel_rfl))
 f282:=func146.trans (congrArg some (by kernel_rfl))
 f283:=func156.trans (congrArg some (by kernel_rfl))
 f284:=func157.trans (congrArg some (by kernel_rfl))
 f285:=func158.trans (congrArg some (by kernel_rfl))
 f286:=func159.trans (congrArg some (by kernel_rfl))
 f287:=func148.trans (congrArg some (by kernel_rfl))
 f316:=func149.trans (congrArg some (by kernel_rfl))
 f317:=func160.trans (congrArg some (by kernel_rfl))
 f318:=func162.trans (congrArg some (by kernel_rfl))
 f319:=func163.trans (congrArg some (by kernel_rfl))
 f320:=func164.trans (congrArg some (by kernel_rfl))
 f321:=func152.trans (congrArg some (by kernel_rfl))
 f322:=func153.trans (congrArg some (by kernel_rfl))
 f337:=func165.trans (congrArg some (by kernel_rfl))
 f338:=func166.trans (congrArg some (by kernel_rfl))
 t0:=underlying0
 a0:=isAgg0
 z0:=sizeOf0
 v0:=zeroValue0
 t2:=underlying2
 a2:=isAgg2
 z2:=sizeOf2
 v2:=zeroValue2
 t3:=underlying3
 a3:=isAgg3
 z3:=sizeOf3
 v3:=zeroValue3
 t4:=underlying4
 a4:=isAgg4
 z4:=sizeOf4
 v4:=zeroValue4
 t5:=underlying5
 a5:=isAgg5
 z5:=sizeOf5
 v5:=zeroValue5
 t9:=underlying9
 a9:=isAgg9
 z9:=sizeOf9
 v9:=zeroValue9
 t20:=underlying20
 a20:=isAgg20
 z20:=sizeOf20
 v20:=zeroValue20
 t21:=underlying21
 a21:=isAgg21
 z21:=sizeOf21
 v21:=zeroValue21
 t37:=underlying139
 a37:=isAgg139
 z37:=sizeOf139
 v37:=zeroValue139
 t46:=underlying171
 a46:=isAgg171
 z46:=sizeOf171
 v46:=zeroValue171
 t51:=underlying182
 a51:=isAgg182
 z51:=sizeOf182
 v51:=zeroValue182
 t53:=underlying133
 a53:=isAgg133
 z53:=sizeOf133
 v53:=zeroValue133
 t75:=underlying163
 a75:=isAgg163
 z75:=sizeOf163
 v75:=zeroValue163
 t76:=underlying164
 a76:=isAgg164
 z76:=sizeOf164
 v76:=zeroValue164
 t85:=underlying177
 a85:=isAgg177
 z85:=sizeOf177
 v85:=zeroValue177
 t127:=underlying193
 a127:=isAgg193
 z127:=sizeOf193
 v127:=zeroValue193
 t143:=underlying194
 a143:=isAgg194
 z143:=sizeOf194
 v143:=zeroValue194
 t145:=underlying196
 a145:=isAgg196
 z145:=sizeOf196
 v145:=zeroValue196
 t167:=underlying176
 a167:=isAgg176
 z167:=sizeOf176
 v167:=zeroValue176
 t168:=underlying179
 a168:=isAgg179
 z168:=sizeOf179
 v168:=zeroValue179
 t171:=underlying198
 a171:=isAgg198
 z171:=sizeOf198
 v171:=zeroValue198
 t173:=underlying201
 a173:=isAgg201
 z173:=sizeOf201
 v173:=zeroValue201
 t175:=underlying185
 a175:=isAgg185
 z175:=sizeOf185
 v175:=zeroValue185
 t210:=underlying189
 a210:=isAgg189
 z210:=sizeOf189
 v210:=zeroValue189
 t212:=underlying204
 a212:=isAgg204
 z212:=sizeOf204
 v212:=zeroValue204
 t213:=underlying205
 a213:=isAgg205
 z213:=sizeOf205
 t232:=underlying208
 a232:=isAgg208
 z232:=sizeOf208
 v232:=zeroValue208
 t233:=underlying209
 a233:=isAgg209
 z233:=sizeOf209
 v233:=zeroValue209
 g15:=by kernel_rfl
 g16:=by kernel_rfl
 g17:=by kernel_rfl
 g18:=by kernel_rfl
 g19:=by kernel_rfl }
open Go.RowKit in
theorem Tryz.strconv_Atoi (s:ByteArray) (n:Int) (hl:s.size≤18) (h:Lib.atoi s.data.toList=some n) (w:World) :
  Calls prog 129 #[.string s] w fun e w'=>e=.returned (.tuple #[.int .i64 n,.nilIface])∧∃t,w'=Lib.bytesWorld w 5 t:=Any.strconv_Atoi lays172 s n hl h w
def Tryz.lays219_ren:Go.Shelf.Ren:=⟨fun | 219=>135 | 217=>126 | 225=>140 | 224=>139 | 267=>141 | 266=>133 | 314=>147 | n=>n,fun | 9=>9 | 3=>3 | 4=>4 | 5=>5 | 46=>171 | 146=>183 | 51=>182 | n=>n,fun | 1=>2 | n=>n⟩
theorem Tryz.lays219:Go.Proofs.Lays.n219 prog lays219_ren:={
 mixed:=by kernel_rfl
 f217:=func126.trans (congrArg some (by kernel_rfl))
 f219:=func135.trans (congrArg some (by kernel_rfl))
 f224:=func139.trans (congrArg some (by kernel_rfl))
 f225:=func140.trans (congrArg some (by kernel_rfl))
 f266:=func133.trans (congrArg some (by kernel_rfl))
 f267:=func141.trans (congrArg some (by kernel_rfl))
 f314:=func147.trans (congrArg some (by kernel_rfl))
 t3:=underlying3
 a3:=isAgg3
 z3:=sizeOf3
 v3:=zeroValue3
 t4:=underlying4
 a4:=isAgg4
 z4:=sizeOf4
 v4:=zeroValue4
 t5:=underlying5
 a5:=isAgg5
 z5:=sizeOf5
 v5:=zeroValue5
 t9:=underlying9
 a9:=isAgg9
 z9:=sizeOf9
 v9:=zeroValue9
 t46:=underlying171
 a46:=isAgg171
 z46:=sizeOf171
 v46:=zeroValue171
 t51:=underlying182
 a51:=isAgg182
 z51:=sizeOf182
 v51:=zeroValue182
 t146:=underlying183
 a146:=isAgg183
 z146:=sizeOf183
 v146:=zeroValue183
 g1:=by kernel_rfl }
open Go.RowKit Go.Lib in
theorem Tryz.stringslite_Index_one (s:ByteArray) (c:UInt8) (w:World) :
  Calls prog 135 #[.string s,.string ⟨#[c]⟩] w fun e w'=>e=.returned (.int .i64 (Lib.indexByte s.data.toList c))∧w'=w:=Any.stringslite_Index_one lays219 s c w
end Go.Proofs
namespace Go.Proofs.YtdcajmeeeoofgaaGreatDoor
section
namespace Num
def mk (n d:Int):Int × Int × Int:=
 if d=0 then (0,0,4) else
 if 2147483647<n.natAbs / Int.gcd n d∨2147483647<d.natAbs / Int.gcd n d then (0,0,3) else
 if n<0↔d<0 then (((n.natAbs / Int.gcd n d:Nat):Int),((d.natAbs / Int.gcd n d:Nat):Int),0)
 else (-((n.natAbs / Int.gcd n d:Nat):Int),((d.natAbs / Int.gcd n d:Nat):Int),0)
def right (n d:Int):Bool:=
 decide (1≤d)&&(decide (d≤2147483647)&&(decide (-2147483647≤n)&&(decide (n≤2147483647)&&(Int.gcd n d==1))))
def sub (n d m e:Int):Int × Int × Int:=if right n d&&right m e then mk (n*e-m*d) (d*e) else (0,0,3)
def less (n d m e:Int):Bool:=right n d&&right m e&&decide (n*e<m*d)
theorem gcd_ne {n d:Int} (hd:d≠0):Int.gcd n d≠0:=by
 intro h
 rw[Int.gcd_eq_zero_iff] at h
 exact hd h.2
end Num
end
section
namespace Num
end Num
end
section
namespace Num
open Go
def text (n d:Int):List UInt8:=
 if right n d then Lib.itoa n++(if d=1 then [] else 47::Lib.itoa d) else []
def nat? (l:List UInt8):Option Nat:=if l.length≤10 then Lib.decNat l else none
def noSlash (b:UInt8):Bool:=b != 47
def lower (l:List UInt8):List UInt8:=match l.dropWhile noSlash with | []=>[49] | _::t=>t
def parseU (neg:Bool) (l:List UInt8):Int × Int × Bool:=
 match nat? (l.takeWhile noSlash),nat? (lower l) with
 | some n,some d=>((mk (if neg then -(n:Int) else n) d).1,(mk (if neg then -(n:Int) else n) d).2.1,decide ((mk (if neg then -(n:Int) else n) d).2.2=0))
 | _,_=>(0,0,false)
def parse (l:List UInt8):Int × Int × Bool:=
 match l with
 | 45::r=>parseU true r
 | r=>parseU false r
def isDigit (b:UInt8):Bool:=decide (48≤b.toNat)&&decide (b.toNat≤57)
theorem zct {b:UInt8} (h:isDigit b=true):noSlash b=true:=by
 simp only[isDigit,Bool.and_eq_true,decide_eq_true_eq] at h
 simp only[noSlash,bne_iff_ne,ne_eq]
 rintro rfl
 simp at h
end Num
end
section
inductive Dat where
 | mk (kind n d:Int) (s:ByteArray) (l:List Dat)
namespace Dat
open Go
def kind:Dat→Int | mk k _ _ _ _=>k
def n:Dat→Int | mk _ n _ _ _=>n
def d:Dat→Int | mk _ _ d _ _=>d
def s:Dat→ByteArray | mk _ _ _ s _=>s
def l:Dat→List Dat | mk _ _ _ _ l=>l
def marks:List UInt8:=[97,98,99,100,101,102,103,104,105,106,107,108,109,110,111,112,113,114,115,116,117,118,119,120,121,122,48,49,50,51,52,53,54,55,56,57,45,43,42,47,60,62,61,33,63,95,37]
def nameByte (b:UInt8):Bool:=marks.contains b
def name (l:List UInt8):Bool:=decide (1≤l.length)&&(decide (l.length≤40)&&(l.all nameByte && !(Num.parse l).2.2))
def strByte (b:UInt8):Bool:=decide (32≤b.toNat)&&(decide (b.toNat≤126)&&(decide (b.toNat≠34)&&decide (b.toNat≠92)))
def head (k n d:Int) (s:List UInt8) (len:Nat):Bool:=
 if k=0 then Num.right n d&&(s.isEmpty&&decide (len=0))
 else if k=1 then decide (d=0)&&(decide (n=0∨n=1)&&(s.isEmpty&&decide (len=0)))
 else if k=2 then decide (d=0)&&(decide (n=0)&&(name s&&decide (len=0)))
 else if k=3 then decide (d=0)&&(decide (n=0)&&(s.all strByte&&decide (len=0)))
 else if k=4∨k=5 then decide (d=0)&&(decide (n=0)&&(s.isEmpty&&decide (len=0)))
 else if k=6 then decide (d=0)&&(decide (n=0)&&(s.isEmpty&&decide (len=2)))
 else if k=7 then decide (d=0)&&(decide (n=0)&&s.isEmpty)
 else false
mutual
def right:Dat→Nat→Bool
 | mk k n d s l,deep=>decide (deep≤200)&&(head k n d s.data.toList l.length&&rightL l (deep+1))
def rightL:List Dat→Nat→Bool
 | [],_=>true
 | x::l,deep=>right x deep&&rightL l deep
end
mutual
def few:Dat→Int→Int
 | mk _ _ _ _ l,left=>fewL l (left-1)
def fewL:List Dat→Int→Int
 | [],left=>left
 | x::l,left=>if 0≤left then fewL l (few x left) else left
end
mutual
def size:Dat→Nat→Nat
 | mk _ _ _ _ l,deep=>1+(if deep<1000 then sizeL l (deep+1) else 0)
def sizeL:List Dat→Nat→Nat
 | [],_=>0
 | x::l,deep=>size x deep+sizeL l deep
end
mutual
def all:Dat→Nat
 | mk _ _ _ _ l=>1+allL l
def allL:List Dat→Nat
 | []=>0
 | x::l=>all x+allL l
end
mutual
def alike:Dat→Dat→Bool
 | mk k n d s l,mk k' n' d' s' l'=>(decide (k=k')&&(decide (n=n')&&(decide (d=d')&&decide (s=s'))))&&alikeL l l'
def alikeL:List Dat→List Dat→Bool
 | [],[]=>true
 | x::l,y::l'=>alike x y&&alikeL l l'
 | _,_=>false
end
mutual
def text:Dat→Bool→List UInt8
 | mk k n d s l,tail=>
  if k=6 then (if tail then 32::textP l else 40::(textP l++[41]))
  else if tail then (if k=4 then [] else [32,46,32]++textA k n d s l) else textA k n d s l
def textA (k n d:Int) (s:ByteArray) (l:List Dat):List UInt8:=
 if k=0 then Num.text n d
 else if k=1 then (if n=1 then [35,116] else [35,102])
 else if k=2 then s.data.toList
 else if k=3 then 34::(s.data.toList++[34])
 else if k=4 then [40,41]
 else if k=5 then [35,118]
 else [35,40]++(textV l true++[41])
def textP:List Dat→List UInt8
 | [a,b]=>text a false++text b true
 | _=>[]
def textV:List Dat→Bool→List UInt8
 | [],_=>[]
 | x::l,first=>(if first then [] else [32])++(text x false++textV l false)
end
def null:Dat:=mk 4 0 0 ⟨#[]⟩ []
def pair (a b:Dat):Dat:=mk 6 0 0 ⟨#[]⟩ [a,b]
def list:List Dat→Dat
 | []=>null
 | x::l=>pair x (list l)
end Dat
end
section
namespace Dat
open Go
theorem ind {P:Dat→Prop} (h:∀k n d s l,(∀x∈l,P x)→P (mk k n d s l)):∀x,P x:=by
 intro x
 refine Dat.rec (motive_1:=P) (motive_2:=fun l=>∀x∈l,P x) ?_ ?_ ?_ x
 ·intro k n d s l ih;exact h k n d s l ih
 ·intro x hx;cases hx
 ·intro x l hx hl y hy
  rcases List.mem_cons.1 hy with rfl | hy
  ·exact hx
  ·exact hl y hy
theorem all_pos (x:Dat):1≤all x:=by cases x;simp[all]
theorem few_both:∀x:Dat,∀left:Int,((all x:Int)≤left→few x left=left-all x)∧(left<all x→few x left<0):=by
 have hL:∀l:List Dat,(∀x∈l,∀left:Int,((all x:Int)≤left→few x left=left-all x)∧(left<all x→few x left<0)) →
   ∀left:Int,((allL l:Int)≤left→fewL l left=left-allL l)∧(left<allL l→fewL l left<0):=by
  intro l
  induction l with
  | nil=>intro _ left;simp[fewL,allL]
  | cons x l ih=>
   intro h left
   have ih:=ih (fun y hy=>h y (by simp[hy]))
   have hx:=h x (by simp) left
   have hp:=all_pos x
   constructor
   ·intro hle
    simp only[allL] at hle
    rw[fewL,if_pos (by omega),hx.1 (by omega),(ih _).1 (by omega)]
    simp only[allL];omega
   ·intro hlt
    simp only[allL] at hlt
    rw[fewL]
    split
    ·by_cases hc:left<all x
     ·have:=hx.2 hc
      have e:fewL l (few x left)=few x left:=by
       cases l with
       | nil=>rfl
       | cons y l=>rw[fewL,if_neg (by omega)]
      omega
     ·rw[hx.1 (by omega)]
      exact (ih _).2 (by omega)
    ·omega
 intro x
 induction x using ind with
 | h k n d s l ih=>
  intro left
  have:=hL l ih (left-1)
  simp only[few,all]
  constructor
  ·intro h;rw[this.1 (by omega)];omega
  ·intro h;exact this.2 (by omega)
theorem few_iff (x:Dat) (left:Int):0≤few x left↔(all x:Int)≤left:=by
 have:=few_both x left
 constructor
 ·intro h
  apply Decidable.byContradiction
  intro hc
  have:=this.2 (by omega)
  omega
 ·intro h;rw[this.1 h];omega
theorem few_le (x:Dat) (left:Int):few x left≤left-1∨few x left<0:=by
 have:=few_both x left
 have hp:=all_pos x
 by_cases h:(all x:Int)≤left
 ·rw[this.1 h];omega
 ·exact .inr (this.2 (by omega))
theorem zhC:∀x y:Dat,alike x y=true↔x=y:=by
 intro x
 induction x using ind with
 | h k n d s l ih=>
  intro y
  obtain ⟨k',n',d',s',l'⟩:=y
  have hL:∀l:List Dat,(∀x∈l,∀y:Dat,alike x y=true↔x=y)→∀l',alikeL l l'=true↔l=l':=by
   intro l
   induction l with
   | nil=>intro _ l';cases l'<;>simp[alikeL]
   | cons x l ih=>
    intro h l'
    cases l' with
    | nil=>simp[alikeL]
    | cons y l'=>
     simp only[alikeL,Bool.and_eq_true,List.cons.injEq]
     rw[h x (by simp) y,ih (fun z hz=>h z (by simp[hz])) l']
  simp only[alike,Bool.and_eq_true,decide_eq_true_eq,hL l ih l',mk.injEq]
  constructor
  ·rintro ⟨⟨a,b,c,d⟩,e⟩;exact ⟨a,b,c,d,e⟩
  ·rintro ⟨a,b,c,d,e⟩;exact ⟨⟨a,b,c,d⟩,e⟩
theorem alike_self (x:Dat):alike x x=true:=(zhC x x).2 rfl
end Dat
end
section
namespace Dat
open Go
def opens (b:UInt8):Prop:=b≠46∧b≠41
end Dat
end
section
open Go.RowKit
theorem zbj {k:IntKind} {a b:Int} (h:a=b):Ending.returned (.int k a)=.returned (.int k b):=by rw[h]
theorem zah {a b:Bool} (h:a=b):Ending.returned (.bool a)=.returned (.bool b):=by rw[h]
theorem zfx {a b c:Int} {p:Int × Int × Int} (h:p=(a,b,c)):Ending.returned (.tuple #[.int .i64 a,.int .i64 b,.int .i64 c])=.returned (.tuple #[.int .i64 p.1,.int .i64 p.2.1,.int .i64 p.2.2]):=by
 rw[h]
theorem zcn (n:Int) (h0:-9223372036854775808≤n) (h:n<0):IntKind.u64.wrap (-IntKind.u64.wrap n)=n.natAbs:=by
 simp[IntKind.wrap,IntKind.bits,IntKind.signed]
 omega
theorem zdp (n:Int) (h0:-9223372036854775808≤n) (h1:n≤9223372036854775807) (w:World) :
  Calls prog 100 #[.int .i64 n] w fun e w'=>e=.returned (.int .u64 n.natAbs)∧w=w':=by
 by_cases h:n<0
 ·go_enter func100,ntmps100
  go_wp2
  go_ret
  exact ⟨zbj (zcn n h0 h),rfl⟩
 ·go_enter func100,ntmps100
  go_wp2
  go_ret
  exact ⟨zbj (by omega),rfl⟩
theorem zef (n:Int) (h0:-9223372036854775808≤n) (h1:n≤9223372036854775807) (w:World) :
  Calls prog 106 #[.int .i64 n] w fun e w'=>e=.returned (.int .u64 n.natAbs)∧w=w':=by
 by_cases h:n<0
 ·go_enter func106,ntmps106
  go_wp2
  go_ret
  exact ⟨zbj (zcn n h0 h),rfl⟩
 ·go_enter func106,ntmps106
  go_wp2
  go_ret
  exact ⟨zbj (by omega),rfl⟩
theorem zgL (a b:Nat) (ha:a≤9223372036854775808) (hb:b≤9223372036854775808) (w:World) :
  Calls prog 99 #[.int .u64 a,.int .u64 b] w fun e w'=>e=.returned (.int .u64 (Nat.gcd a b:Nat))∧∃n,w'=w.drewN n:=by
 go_enter func99,ntmps99
 go_wp2
 go_step3
 go_wp2
 go_step3
 go_wp2
 go_loopw [0,1] (fun x y wr=>∃p q:Nat,x=.int .u64 p∧y=.int .u64 q∧p≤9223372036854775808∧q≤9223372036854775808∧Nat.gcd p q=Nat.gcd a b∧∃n,wr=w.drewN n) (fun _ y _=>(intOf y).toNat)
 case atStart=>exact ⟨a,b,rfl,rfl,ha,hb,rfl,0,rfl⟩
 case round=>
  obtain ⟨p,q,rfl,rfl,hp,hq,hg,n,rfl⟩:=hrel
  have H:=zh hg
  clear hg
  by_cases hz:q=0
  ·subst hz
   go_wp2
   rw[Exit.noGoto_ret]
   go_ret
   exact ⟨zbj (by rw[←H.out];simp),n,rfl⟩
  ·have hz1:((q:Int)==0)=false:=by simpa using hz
   have hlt:p % q<q:=Nat.mod_lt _ (by omega)
   have hE:=zh (show Nat.gcd q (p % q)=Nat.gcd a b by rw[Nat.gcd_comm,←Nat.gcd_rec,Nat.gcd_comm];exact H.out)
   go_wp2
   go_quiet (fail)
   go_wp2
   go_roundw
   case rel=>exact ⟨q,p % q,rfl,by go_num,hq,by omega,hE.out,_,World.drewN_drewN _ _ _⟩
   case measure=>simp[intOf];omega
theorem zdf (a b:Int) (a0:0≤a) (ha:a≤9223372036854775808) (b0:0≤b) (hb:b≤9223372036854775808) (w:World) :
  Calls prog 99 #[.int .u64 a,.int .u64 b] w fun e w'=>e=.returned (.int .u64 (Int.gcd a b))∧∃n,w'=w.drewN n:=by
 obtain ⟨p,rfl⟩:=Int.eq_ofNat_of_zero_le a0
 obtain ⟨q,rfl⟩:=Int.eq_ofNat_of_zero_le b0
 exact zgL p q (by omega) (by omega) w
theorem zkq (a b:Nat) (ha:a≤9223372036854775808) (hb:b≤9223372036854775808) (w:World) :
  Calls prog 105 #[.int .u64 a,.int .u64 b] w fun e w'=>e=.returned (.int .u64 (Nat.gcd a b:Nat))∧w=w':=by
 go_enter func105,ntmps105
 go_wp2
 go_loop [0,1] (fun x y=>∃p q:Nat,x=.int .u64 p∧y=.int .u64 q∧p≤9223372036854775808∧q≤9223372036854775808∧Nat.gcd p q=Nat.gcd a b) (fun _ y=>(intOf y).toNat)
 case atStart=>exact ⟨a,b,rfl,rfl,ha,hb,rfl⟩
 case round=>
  obtain ⟨p,q,rfl,rfl,hp,hq,hg⟩:=hrel
  have H:=zh hg
  clear hg
  by_cases hz:q=0
  ·subst hz
   go_wp2
   go_ret
   exact ⟨zbj (by rw[←H.out];simp),rfl⟩
  ·have hz1:(0:Int)<q:=by omega
   have hlt:p % q<q:=Nat.mod_lt _ (by omega)
   have hE:=zh (show Nat.gcd q (p % q)=Nat.gcd a b by rw[Nat.gcd_comm,←Nat.gcd_rec,Nat.gcd_comm];exact H.out)
   go_wp2
   go_round
   case rel=>exact ⟨q,p % q,rfl,by go_num,hq,by omega,hE.out⟩
   case measure=>simp[intOf];omega
theorem zfj (a b:Int) (a0:0≤a) (ha:a≤9223372036854775808) (b0:0≤b) (hb:b≤9223372036854775808) (w:World) :
  Calls prog 105 #[.int .u64 a,.int .u64 b] w fun e w'=>e=.returned (.int .u64 (Int.gcd a b))∧w=w':=by
 obtain ⟨p,rfl⟩:=Int.eq_ofNat_of_zero_le a0
 obtain ⟨q,rfl⟩:=Int.eq_ofNat_of_zero_le b0
 exact zkq p q (by omega) (by omega) w
theorem zdm (n d:Int):Int.gcd (n.natAbs:Int) d=Int.gcd n d:=by simp[Int.gcd]
theorem zhU (n d:Int) (h0:-9223372036854775808≤n) (h1:n≤9223372036854775807) (h2:-9223372036854775808≤d) (h3:d≤9223372036854775807) (w:World) :
  Calls prog 85 #[.int .i64 n,.int .i64 d] w fun e w'=>e=.returned (.bool (Num.right n d))∧∃k,w'=w.drewN k:=by
 go_enter func85,ntmps85
 go_wp2_with (first | (go_at_call 100;refine (zdp _ (by omega) (by omega) _).mono ?_;rintro e w' ⟨rfl,rfl⟩) | (go_at_call 99;refine (zdf _ _ (by omega) (by omega) (by omega) (by omega) _).mono ?_;rintro e w' ⟨rfl,k,rfl⟩))
 all_goals go_ret
 ·exact ⟨zah (by rw[zdm];simp[Num.right, *];rw[Bool.eq_iff_iff];simp;omega),_,rfl⟩
 all_goals exact ⟨zah (by simp[Num.right];omega),0,rfl⟩
theorem zgv (n d:Int) (h0:-9223372036854775808≤n) (h1:n≤9223372036854775807) (h2:-9223372036854775808≤d) (h3:d≤9223372036854775807) (w:World) :
  Calls prog 97 #[.int .i64 n,.int .i64 d] w fun e w'=>e=.returned (.bool (Num.right n d))∧∃k,w'=w.drewN k:=by
 go_enter func97,ntmps97
 go_wp2_with (first | (go_at_call 106;refine (zef _ (by omega) (by omega) _).mono ?_;rintro e w' ⟨rfl,rfl⟩) | (go_at_call 105;refine (zfj _ _ (by omega) (by omega) (by omega) (by omega) _).mono ?_;rintro e w' ⟨rfl,rfl⟩))
 all_goals go_ret
 ·exact ⟨zah (by rw[zdm];simp[Num.right, *];rw[Bool.eq_iff_iff];simp;omega),0,rfl⟩
 all_goals exact ⟨zah (by simp[Num.right];omega),0,rfl⟩
end
section
open Go.RowKit
theorem zia (n d:Int) (G:Nat) (hG:Int.gcd n d=G) (h0:n.natAbs≤9223372036854775808) (h2:d.natAbs≤9223372036854775808) (w:World) :
  Calls prog 99 #[.int .u64 n.natAbs,.int .u64 d.natAbs] w fun e w'=>e=.returned (.int .u64 G)∧∃n,w'=w.drewN n:=by
 refine (zdf _ _ (by omega) (by omega) (by omega) (by omega) w).mono ?_
 rintro e w' ⟨rfl,k⟩
 exact ⟨by rw[←hG];simp[Int.gcd],k⟩
theorem zlB (n d:Int) (G:Nat) (hG:Int.gcd n d=G) (h0:n.natAbs≤9223372036854775808) (h2:d.natAbs≤9223372036854775808) (w:World) :
  Calls prog 105 #[.int .u64 n.natAbs,.int .u64 d.natAbs] w fun e w'=>e=.returned (.int .u64 G)∧w=w':=by
 refine (zfj _ _ (by omega) (by omega) (by omega) (by omega) w).mono ?_
 rintro e w' ⟨rfl,k⟩
 exact ⟨by rw[←hG];simp[Int.gcd],k⟩
theorem zjr (n d:Int) (h0:-9223372036854775808≤n) (h1:n≤9223372036854775807) (h2:-9223372036854775808≤d) (h3:d≤9223372036854775807) (w:World) :
  Calls prog 119 #[.int .i64 n,.int .i64 d] w fun e w'=>e=.returned (.tuple #[.int .i64 (Num.mk n d).1,.int .i64 (Num.mk n d).2.1,.int .i64 (Num.mk n d).2.2])∧∃k,w'=w.drewN k:=by
 by_cases hd:d=0
 ·subst hd
  go_enter func119,ntmps119
  go_wp2
  go_ret3
  exact ⟨zfx rfl,0,rfl⟩
 ·have hg:=Num.gcd_ne (n:=n) hd
  have hd0:(d==0)=false:=by simpa using hd
  obtain ⟨G,hG⟩:∃G,Int.gcd n d=G:=⟨_,rfl⟩
  obtain ⟨A,hA⟩:∃A,n.natAbs / G=A:=⟨_,rfl⟩
  obtain ⟨B,hB⟩:∃B,d.natAbs / G=B:=⟨_,rfl⟩
  rw[hG] at hg
  have HK:Hid (Num.mk n d=if 2147483647<A∨2147483647<B then (0,0,3) else if n<0↔d<0 then ((A:Int),(B:Int),0) else (-(A:Int),(B:Int),0)):=zh (by simp only[Num.mk,hd,if_false,hG,hA,hB])
  have b1:A≤n.natAbs:=by rw[←hA];exact Nat.div_le_self _ _
  have b2:B≤d.natAbs:=by rw[←hB];exact Nat.div_le_self _ _
  have q1:((n.natAbs:Int) / (G:Int))=A:=by rw[←hA];rfl
  have q2:((d.natAbs:Int) / (G:Int))=B:=by rw[←hB];rfl
  have HG:=zh hG
  clear hG hA hB
  have hg0:((G:Int)==0)=false:=by simpa using hg
  cases hn:decide (n<0)<;>cases hm:decide (d<0)
  all_goals
   have hn2:=hn
   have hm2:=hm
   simp only[decide_eq_true_eq,decide_eq_false_iff_not,Int.not_lt] at hn2 hm2
   go_enter func119,ntmps119
   go_wp2_with (first | (go_at_call 100;refine (zdp _ (by omega) (by omega) _).mono ?_;rintro e w' ⟨rfl,rfl⟩) | (go_at_call 99;refine (zia _ _ G HG.out (by omega) (by omega) _).mono ?_;rintro e w' ⟨rfl,k,rfl⟩))
   go_quiet (fail)
   go_wp2
   all_goals
    go_ret3
    refine ⟨zfx (HK.out.trans ?_),by first | exact ⟨0,rfl⟩ | exact ⟨_,rfl⟩⟩
    first
     | (rw[if_pos (by omega)])
     | (rw[if_neg (by omega),if_pos (by omega)])
     | (rw[if_neg (by omega),if_neg (by omega)])
theorem zh6 (n d:Int) (h0:-9223372036854775808≤n) (h1:n≤9223372036854775807) (h2:-9223372036854775808≤d) (h3:d≤9223372036854775807) (w:World) :
  Calls prog 121 #[.int .i64 n,.int .i64 d] w fun e w'=>e=.returned (.tuple #[.int .i64 (Num.mk n d).1,.int .i64 (Num.mk n d).2.1,.int .i64 (Num.mk n d).2.2])∧∃k,w'=w.drewN k:=by
 by_cases hd:d=0
 ·subst hd
  go_enter func121,ntmps121
  go_wp2
  go_ret3
  exact ⟨zfx rfl,0,rfl⟩
 ·have hg:=Num.gcd_ne (n:=n) hd
  have hd0:(d==0)=false:=by simpa using hd
  obtain ⟨G,hG⟩:∃G,Int.gcd n d=G:=⟨_,rfl⟩
  obtain ⟨A,hA⟩:∃A,n.natAbs / G=A:=⟨_,rfl⟩
  obtain ⟨B,hB⟩:∃B,d.natAbs / G=B:=⟨_,rfl⟩
  rw[hG] at hg
  have HK:Hid (Num.mk n d=if 2147483647<A∨2147483647<B then (0,0,3) else if n<0↔d<0 then ((A:Int),(B:Int),0) else (-(A:Int),(B:Int),0)):=zh (by simp only[Num.mk,hd,if_false,hG,hA,hB])
  have b1:A≤n.natAbs:=by rw[←hA];exact Nat.div_le_self _ _
  have b2:B≤d.natAbs:=by rw[←hB];exact Nat.div_le_self _ _
  have q1:((n.natAbs:Int) / (G:Int))=A:=by rw[←hA];rfl
  have q2:((d.natAbs:Int) / (G:Int))=B:=by rw[←hB];rfl
  have HG:=zh hG
  clear hG hA hB
  have hg0:((G:Int)==0)=false:=by simpa using hg
  cases hn:decide (n<0)<;>cases hm:decide (d<0)
  all_goals
   have hn2:=hn
   have hm2:=hm
   simp only[decide_eq_true_eq,decide_eq_false_iff_not,Int.not_lt] at hn2 hm2
   go_enter func121,ntmps121
   go_wp2_with (first | (go_at_call 106;refine (zef _ (by omega) (by omega) _).mono ?_;rintro e w' ⟨rfl,rfl⟩) | (go_at_call 105;refine (zlB _ _ G HG.out (by omega) (by omega) _).mono ?_;rintro e w' ⟨rfl,rfl⟩))
   all_goals
    go_ret3
    refine ⟨zfx (HK.out.trans ?_),by first | exact ⟨0,rfl⟩ | exact ⟨_,rfl⟩⟩
    first
     | (rw[if_pos (by omega)])
     | (rw[if_neg (by omega),if_pos (by omega)])
     | (rw[if_neg (by omega),if_neg (by omega)])
end
section
open Go.RowKit
end
section
open Go.RowKit
end
section
open Go.RowKit
theorem zdR (n d x y z:Int) (hq:Num.mk n d=(x,y,z)) (h0:-9223372036854775808≤n) (h1:n≤9223372036854775807) (h2:-9223372036854775808≤d) (h3:d≤9223372036854775807) (w:World) :
  Calls prog 119 #[.int .i64 n,.int .i64 d] w fun e' w'=>e'=.returned (.tuple #[.int .i64 x,.int .i64 y,.int .i64 z])∧∃k,w'=w.drewN k:=by
 have:=zjr n d (by assumption) (by assumption) (by assumption) (by assumption) w
 rw[hq] at this
 exact this
theorem zcy (n d x y z:Int) (hq:Num.mk n d=(x,y,z)) (h0:-9223372036854775808≤n) (h1:n≤9223372036854775807) (h2:-9223372036854775808≤d) (h3:d≤9223372036854775807) (w:World) :
  Calls prog 121 #[.int .i64 n,.int .i64 d] w fun e' w'=>e'=.returned (.tuple #[.int .i64 x,.int .i64 y,.int .i64 z])∧∃k,w'=w.drewN k:=by
 have:=zh6 n d (by assumption) (by assumption) (by assumption) (by assumption) w
 rw[hq] at this
 exact this
theorem ziS (n d:Int) (x:Bool) (hq:Num.right n d=x) (h0:-9223372036854775808≤n) (h1:n≤9223372036854775807) (h2:-9223372036854775808≤d) (h3:d≤9223372036854775807) (w:World) :
  Calls prog 85 #[.int .i64 n,.int .i64 d] w fun e' w'=>e'=.returned (.bool x)∧∃k,w'=w.drewN k:=by
 have:=zhU n d (by assumption) (by assumption) (by assumption) (by assumption) w
 rw[hq] at this
 exact this
theorem zeC (n d:Int) (x:Bool) (hq:Num.right n d=x) (h0:-9223372036854775808≤n) (h1:n≤9223372036854775807) (h2:-9223372036854775808≤d) (h3:d≤9223372036854775807) (w:World) :
  Calls prog 97 #[.int .i64 n,.int .i64 d] w fun e' w'=>e'=.returned (.bool x)∧∃k,w'=w.drewN k:=by
 have:=zgv n d (by assumption) (by assumption) (by assumption) (by assumption) w
 rw[hq] at this
 exact this
end
section
structure Ins where
 op:Int
 d:Int
 a:Int
 b:Int
 l:List Int
structure Proc where
 args:Int
 rest:Bool
 regs:Int
 code:List Ins
 alive:List (List Int)
namespace Unt
def isOp (op:Int):Bool:=decide (0≤op)&&decide (op≤22)
def pD (op:Int):Bool:=[0,1,2,3,4,5,6,7,9,10,11,14,17,18].contains op
def pA (op:Int):Bool:=[1,8,10,11,12,13,14,16,17,19,22].contains op
def pB (op:Int):Bool:=[12,13,18,20].contains op
def pL (op:Int):Bool:=[7,8,9,17,18,19,20,21].contains op
def pN (op:Int):Bool:=[0,2,5,6,7,9,15,18,20,21].contains op
def pM (op:Int):Bool:=op==16
def below (n most:Int):Bool:=decide (0≤n)&&decide (n<most)
def regB (has:Bool) (n regs:Int):Bool:=(!has&&n==0) || (has&&below n regs)
def tailOk (x:Ins) (nc np nk:Int):Bool:=
 if x.op=0 then below x.a nk
 else if x.op=2∨x.op=9 then below x.a 31
 else if x.op=5∨x.op=7∨x.op=18∨x.op=20 then below x.a np
 else if x.op=6 then decide (0≤x.a)
 else if x.op=15 then below x.a nc
 else if x.op=16 then below x.b nc
 else if x.op=21 then decide (x.a=29) || decide (x.a=30)
 else true
def fits (x:Ins) (regs nc np nk:Int):Bool:=
 isOp x.op&&(regB (pD x.op) x.d regs&&((pN x.op || regB (pA x.op) x.a regs)&&((pM x.op || regB (pB x.op) x.b regs)&&((pL x.op || decide (x.l.length≤0))&&(x.l.all (below · regs)&&tailOk x nc np nk)))))
def named (x:Ins):List Int:=
 if x.op=1∨x.op=10∨x.op=11∨x.op=14 then [x.a]
 else if x.op=12∨x.op=13 then [x.a,x.b]
 else if x.op=7∨x.op=9∨x.op=21 then x.l
 else if x.op=8∨x.op=17∨x.op=19 then x.a::x.l
 else if x.op=18∨x.op=20 then x.b::x.l
 else if x.op=16∨x.op=22 then [x.a]
 else []
def gives (x:Ins):Int:=if x.op≤7∨(9≤x.op∧x.op≤11)∨x.op=14∨x.op=17∨x.op=18 then x.d else -1
def bare (x:Ins):Bool:=
 !(decide (gives x<0)&&decide (x.d≠0))&&(!(decide (x.a≠0)&&(decide (x.op=3) || decide (x.op=4)))&&(!(decide (x.b≠0)&&(decide (x.op≠12)&&(decide (x.op≠13)&&(decide (x.op≠16)&&(decide (x.op≠18)&&decide (x.op≠20)))))) &&
  (decide (x.l.length=0) || ((decide (7≤x.op)&&decide (x.op≤9)) || (decide (17≤x.op)&&decide (x.op≤21))))))
def ins (x:Ins) (regs nc np nk:Int):Bool:=
 isOp x.op&&(bare x&&((named x).all (below · regs)&&(!(decide (regs≤gives x) || (decide (gives x < -1) || decide (x.d<0)))&&tailOk x nc np nk)))
theorem ins_fits (x:Ins) (regs nc np nk:Int) (hr:0≤regs):ins x regs nc np nk=fits x regs nc np nk:=by
 obtain ⟨op,d,a,b,l⟩:=x
 cases h:isOp op with
 | false=>simp[ins,fits,h]
 | true=>
  simp only[isOp,Bool.and_eq_true,decide_eq_true_eq] at h
  obtain ⟨h0,h1⟩:=h
  obtain ⟨n,rfl⟩:=Int.eq_ofNat_of_zero_le h0
  have hn:n≤22:=by omega
  clear h0 h1
  generalize hA:l.all (below · regs)=A
  obtain ⟨m,hm⟩:∃m,l.length=m:=⟨_,rfl⟩
  have hAl:(l.length=0→A=true):=fun h=>by
   rw[List.length_eq_zero_iff] at h;subst h;rw[←hA];rfl
  simp only[below] at hA
  match n,hn with
  | 0,_ | 1,_ | 2,_ | 3,_ | 4,_ | 5,_ | 6,_ | 7,_ | 8,_ | 9,_ | 10,_ | 11,_ | 12,_ | 13,_ | 14,_ | 15,_ | 16,_ | 17,_ | 18,_ | 19,_ | 20,_ | 21,_ | 22,_=>
   rw[Bool.eq_iff_iff]
   simp only[ins,fits,bare,hm] at hAl ⊢
   cases A<;>simp[-List.all_eq_true, -List.all_eq_false,named,gives,isOp,pD,pA,pB,pL,pN,pM,regB,below,tailOk,hA] at hAl ⊢<;>omega
  | n+23,h=>omega
end Unt
namespace Unt
def lastOp (l:List Ins):Int:=match l.getLast? with | some x=>x.op | none=>0
def headB (p:Proc):Bool:=!(decide (p.args<0) || (decide (p.regs<p.args) || (decide (20000<p.regs) || ((p.rest&&decide (p.args=0)) || (decide ((p.code.length:Int)=0) || decide (50000<(p.code.length:Int)))))))
def lastB (op:Int):Bool:=decide (op=15) || (decide (19≤op)&&decide (op≤22))
def procsB (nk np:Int):List Proc→Int→Bool
 | [],_=>true
 | p::l,all=>headB p&&(decide (all+p.code.length≤50000)&&(lastB (lastOp p.code)&&(p.code.all (fun x=>fits x p.regs p.code.length np nk)&&procsB nk np l (all+p.code.length))))
end Unt
structure Unt where
 consts:List Dat
 procs:List Proc
def Unt.okB (u:Unt):Bool:=decide (1≤(u.procs.length:Int))&&(decide ((u.procs.length:Int)≤1000)&&(u.consts.all (fun x=>Dat.right x 0)&&Unt.procsB u.consts.length u.procs.length u.procs 0))
def Unt.err (u:Unt):Int:=if u.okB then 0 else 5
end
section
open Go
structure Fact where
 name:ByteArray
 least:Int
 most:Int
 pure:Bool
 folds:Bool
namespace Prims
def noFact:Fact:=⟨⟨#[]⟩,0,0,false,false⟩
def table:List Fact:=[
 ⟨⟨#[43]⟩,0, -1,true,true⟩,
 ⟨⟨#[45]⟩,1, -1,true,true⟩,
 ⟨⟨#[42]⟩,0, -1,true,true⟩,
 ⟨⟨#[47]⟩,1, -1,true,true⟩,
 ⟨⟨#[61]⟩,2,2,true,true⟩,
 ⟨⟨#[60]⟩,2,2,true,true⟩,
 ⟨⟨#[101,113,63]⟩,2,2,true,true⟩,
 ⟨⟨#[101,113,117,97,108,63]⟩,2,2,true,true⟩,
 ⟨⟨#[110,111,116]⟩,1,1,true,true⟩,
 ⟨⟨#[110,117,108,108,63]⟩,1,1,true,true⟩,
 ⟨⟨#[112,97,105,114,63]⟩,1,1,true,true⟩,
 ⟨⟨#[110,117,109,98,101,114,63]⟩,1,1,true,true⟩,
 ⟨⟨#[115,121,109,98,111,108,63]⟩,1,1,true,true⟩,
 ⟨⟨#[98,111,111,108,101,97,110,63]⟩,1,1,true,true⟩,
 ⟨⟨#[115,116,114,105,110,103,63]⟩,1,1,true,true⟩,
 ⟨⟨#[118,101,99,116,111,114,63]⟩,1,1,true,true⟩,
 ⟨⟨#[112,114,111,99,101,100,117,114,101,63]⟩,1,1,true,true⟩,
 ⟨⟨#[99,111,110,115]⟩,2,2,true,false⟩,
 ⟨⟨#[99,97,114]⟩,1,1,true,true⟩,
 ⟨⟨#[99,100,114]⟩,1,1,true,true⟩,
 ⟨⟨#[108,105,115,116]⟩,0, -1,true,false⟩,
 ⟨⟨#[118,101,99,116,111,114]⟩,0, -1,true,false⟩,
 ⟨⟨#[118,101,99,116,111,114,45,114,101,102]⟩,2,2,true,true⟩,
 ⟨⟨#[118,101,99,116,111,114,45,108,101,110,103,116,104]⟩,1,1,true,true⟩,
 ⟨⟨#[108,101,110,103,116,104]⟩,1,1,true,true⟩,
 ⟨⟨#[118,111,105,100]⟩,0,0,true,true⟩,
 ⟨⟨#[100,105,115,112,108,97,121]⟩,1,1,false,false⟩,
 ⟨⟨#[110,101,119,108,105,110,101]⟩,0,0,false,false⟩,
 ⟨⟨#[114,97,105,115,101]⟩,1,1,false,false⟩,
 ⟨⟨#[99,97,108,108,47,99,99]⟩,1,1,false,false⟩,
 ⟨⟨#[97,112,112,108,121]⟩,2,2,false,false⟩]
def facts (n:Int):Fact:=if 0≤n∧n≤30 then table.getD n.toNat noFact else noFact
def has (n:Int):Bool:=decide (0≤n∧n≤30)
end Prims
end
section
open Go.RowKit
def Env (w : World) : Prop := Lib.TabIs prog w "internal/strconv.uint64pow10" .u64 Lib.pow10Tab
theorem Below.next {w w1 w2:World} (h:Below w.heap.size w w1) (h':Below w1.heap.size w1 w2):Below w.heap.size w w2:=
 h.trans (h'.mono h.size)
theorem Below.drewN {w w1:World} {B:Nat} (h:Below B w w1) (k:Nat):Below B w (w1.drewN k):=⟨h.os,h.tape,h.output,h.size,h.block⟩
theorem Below.self (w:World):Below w.heap.size w w:=Below.refl _ _
theorem Below.selfN (w:World) (k:Nat):Below w.heap.size w (w.drewN k):=⟨rfl,rfl,rfl,Nat.le_refl _,fun _ _=>rfl⟩
theorem zfi (s cutset:ByteArray) (hs:s.size≤9223372036854775807) (hcs:cutset.size<4294967281) (ha:cutset.data.toList.all (fun b=>decide (b.toNat<128))=true) (w:World) :
  Calls prog 101 #[.string s,.string cutset] w fun e w'=>e=.returned (.string ⟨(Lib.trimS s.data.toList cutset.data.toList).toArray⟩)∧Below w.heap.size w w':=
 Any.strings_Trim_laid lays160 (by kernel_rfl) s cutset w hs hcs (ascii_of_all ha)
theorem zj4 (s:ByteArray) (n:Int) (hl:s.size≤18) (h:Lib.atoi s.data.toList=some n) (w:World) :
  Calls prog 129 #[.string s] w fun e w'=>e=.returned (.tuple #[.int .i64 n,.nilIface])∧Below w.heap.size w w':=by
 refine (strconv_Atoi s n hl h w).mono ?_
 rintro e w' ⟨rfl,t,rfl⟩
 exact ⟨rfl,rfl,rfl,rfl,by rw[Lib.bytesWorld_size];omega,fun k hk=>Lib.bytesWorld_at_old _ _ _ _ hk⟩
end
section
namespace Peep
def succs (x:Ins) (k:Nat):List Nat:=(if x.op≠15∧x.op<19 then [k+1] else [])++(if x.op=15 then [x.a.toNat] else if x.op=16 then [x.b.toNat] else [])
inductive Reach (code:List Ins):Nat→Prop
 | zero:Reach code 0
 | step {k j:Nat} {x:Ins}:Reach code k→code[k]?=some x→j∈succs x k→Reach code j
def leads (code:List Ins):Nat→List Nat→Nat→Nat
 | 0,_,p=>p
 | f+1,met,p=>match code[p]? with
  | some x=>if x.op=15∧¬x.a.toNat∈met then leads code f (x.a.toNat::met) x.a.toNat else p
  | none=>p
def mapT (g:Int→Int) (x:Ins):Ins:=if x.op=15 then { x with a:=g x.a } else if x.op=16 then { x with b:=g x.b } else x
def cnt (gone:Nat→Bool):Nat→Nat
 | 0=>0
 | k+1=>cnt gone k+if gone k then 0 else 1
def wo (gone:Nat→Bool) (g:Int→Int) (code:List Ins):Nat→List Ins
 | 0=>[]
 | j+1=>wo gone g code j++(match code[j]? with | some x=>if gone j then [] else [mapT g x] | none=>[])
def without (gone:Nat→Bool) (code:List Ins):List Ins:=wo gone (fun t=>(cnt gone t.toNat:Nat)) code code.length
def turned (code:List Ins):List Ins:=code.map (mapT fun t=>(leads code code.length [t.toNat] t.toNat:Nat))
end Peep
end
section
open Go.RowKit
mutual
def RepD (w:World) (B:Nat):Dat→Value→Prop
 | .mk k n d s l,v=>∃o len cap,v=.agg #[.int .i64 k,.int .i64 n,.int .i64 d,.string s,.slice o len cap] ∧
   (-9223372036854775808≤k∧k≤9223372036854775807)∧(-9223372036854775808≤n∧n≤9223372036854775807)∧(-9223372036854775808≤d∧d≤9223372036854775807)∧s.size≤140737488351232 ∧
   len=l.length∧len≤cap∧cap≤9223372036854775807∧(match o with | none=>l=[]∧cap=0 | some a=>(l≠[]→a.spot=none∧a.block<B)∧RepC w B l a.block a.off)
def RepC (w:World) (B:Nat):List Dat→Nat→Nat→Prop
 | [],_,_=>True
 | x::l,b,off=>(∃c0 c1 c2 c3 c4,w.cell? ⟨b,off,none⟩=some c0∧w.cell? ⟨b,off+1,none⟩=some c1∧w.cell? ⟨b,off+2,none⟩=some c2∧w.cell? ⟨b,off+3,none⟩=some c3∧w.cell? ⟨b,off+4,none⟩=some c4∧RepD w B x (.agg #[c0,c1,c2,c3,c4]))∧RepC w B l b (off+5)
end
def RepS (w:World) (B:Nat) (l:List Dat) (v:Value):Prop:=
 ∃o len cap,v=.slice o len cap∧len=l.length∧len≤cap∧cap≤9223372036854775807∧(match o with | none=>l=[]∧cap=0 | some a=>(l≠[]→a.spot=none∧a.block<B)∧RepC w B l a.block a.off)
theorem RepD.open {w:World} {B:Nat} {k n d:Int} {s:ByteArray} {l:List Dat} {v:Value} (h:RepD w B (.mk k n d s l) v) :
  ∃sl,v=.agg #[.int .i64 k,.int .i64 n,.int .i64 d,.string s,sl]∧(-9223372036854775808≤k∧k≤9223372036854775807)∧(-9223372036854775808≤n∧n≤9223372036854775807)∧(-9223372036854775808≤d∧d≤9223372036854775807)∧s.size≤140737488351232∧RepS w B l sl:=by
 rw[RepD] at h
 obtain ⟨o,len,cap,rfl,h1,h2,h3,h4,h5⟩:=h
 exact ⟨_,rfl,h1,h2,h3,h4,o,len,cap,rfl,h5⟩
theorem RepD.shut {w:World} {B:Nat} {k n d:Int} {s:ByteArray} {l:List Dat} {sl:Value} (h1:-9223372036854775808≤k∧k≤9223372036854775807) (h2:-9223372036854775808≤n∧n≤9223372036854775807) (h3:-9223372036854775808≤d∧d≤9223372036854775807) (h4:s.size≤140737488351232) (h:RepS w B l sl) :
  RepD w B (.mk k n d s l) (.agg #[.int .i64 k,.int .i64 n,.int .i64 d,.string s,sl]):=by
 obtain ⟨o,len,cap,rfl,h5⟩:=h
 rw[RepD]
 exact ⟨o,len,cap,rfl,h1,h2,h3,h4,h5⟩
theorem RepC.at {w:World} {B b:Nat}:∀{l:List Dat} {off:Nat},RepC w B l b off→∀(i:Nat) (x:Dat),l[i]?=some x →
  ∃c0 c1 c2 c3 c4,w.cell? ⟨b,off+i*5,none⟩=some c0∧w.cell? ⟨b,off+i*5+1,none⟩=some c1∧w.cell? ⟨b,off+i*5+2,none⟩=some c2∧w.cell? ⟨b,off+i*5+3,none⟩=some c3∧w.cell? ⟨b,off+i*5+4,none⟩=some c4∧RepD w B x (.agg #[c0,c1,c2,c3,c4])
 | [],_,_,i,x,hx=>by simp at hx
 | y::l,off,h,i,x,hx=>by
  rw[RepC] at h
  cases i with
  | zero=>
   simp only[List.getElem?_cons_zero,Option.some.injEq] at hx
   subst hx
   simpa using h.1
  | succ i=>
   have:=RepC.at h.2 i x (by simpa using hx)
   have e:off+(i+1)*5=off+5+i*5:=by omega
   rw[e];exact this
theorem zdV {w w':World} {B:Nat} (hk:∀b o,b<B→w'.cell? ⟨b,o,none⟩=w.cell? ⟨b,o,none⟩) :
  (∀x v,RepD w B x v→RepD w' B x v)∧(∀l b off,b<B→RepC w B l b off→RepC w' B l b off):=by
 have both:(∀x:Dat,∀v,RepD w B x v→RepD w' B x v):=by
  intro x
  refine Dat.rec (motive_1:=fun x=>∀v,RepD w B x v→RepD w' B x v) (motive_2:=fun l=>∀b off,b<B→RepC w B l b off→RepC w' B l b off) ?_ ?_ ?_ x
  ·intro k n d s l ih v h
   rw[RepD] at h ⊢
   obtain ⟨o,len,cap,rfl,h1,h2,h3,h4,h5,h6,h7,h8⟩:=h
   refine ⟨o,len,cap,rfl,h1,h2,h3,h4,h5,h6,h7,?_⟩
   cases o with
   | none=>exact h8
   | some a=>
    refine ⟨h8.1,?_⟩
    by_cases hl:l=[]
    ·subst hl;rw[RepC];trivial
    ·exact ih _ _ (h8.1 hl).2 h8.2
  ·intro b off _ _;rw[RepC];trivial
  ·intro x l ihx ihl b off hb h
   rw[RepC] at h ⊢
   obtain ⟨⟨c0,c1,c2,c3,c4,h0,h1,h2,h3,h4,h5⟩,h6⟩:=h
   exact ⟨⟨c0,c1,c2,c3,c4,by rw[hk _ _ hb];exact h0,by rw[hk _ _ hb];exact h1,by rw[hk _ _ hb];exact h2,by rw[hk _ _ hb];exact h3,by rw[hk _ _ hb];exact h4,ihx _ h5⟩,ihl _ _ hb h6⟩
 refine ⟨both,?_⟩
 intro l
 induction l with
 | nil=>intro b off _ _;rw[RepC];trivial
 | cons x l ih=>
  intro b off hb h
  rw[RepC] at h ⊢
  obtain ⟨⟨c0,c1,c2,c3,c4,h0,h1,h2,h3,h4,h5⟩,h6⟩:=h
  exact ⟨⟨c0,c1,c2,c3,c4,by rw[hk _ _ hb];exact h0,by rw[hk _ _ hb];exact h1,by rw[hk _ _ hb];exact h2,by rw[hk _ _ hb];exact h3,by rw[hk _ _ hb];exact h4,both _ _ h5⟩,ih _ _ hb h6⟩
theorem zbI {B:Nat} {w w':World} (h:Below B w w'):∀b o,b<B→w'.cell? ⟨b,o,none⟩=w.cell? ⟨b,o,none⟩:=
 fun b o hb=>h.cell (p:=⟨b,o,none⟩) hb
theorem RepD.kept {w w':World} {B:Nat} {x:Dat} {v:Value} (h:RepD w B x v) (hb:Below B w w'):RepD w' B x v:=(zdV (zbI hb)).1 x v h
theorem RepC.kept {w w':World} {B:Nat} {l:List Dat} {b off:Nat} (h:RepC w B l b off) (hB:b<B) (hb:Below B w w'):RepC w' B l b off:=(zdV (zbI hb)).2 l b off hB h
theorem RepS.kept {w w':World} {B:Nat} {l:List Dat} {v:Value} (h:RepS w B l v) (hb:Below B w w'):RepS w' B l v:=by
 obtain ⟨o,len,cap,rfl,h1,h2,h3,h4⟩:=h
 refine ⟨o,len,cap,rfl,h1,h2,h3,?_⟩
 cases o with
 | none=>exact h4
 | some a=>
  refine ⟨h4.1,?_⟩
  by_cases hl:l=[]
  ·subst hl;rw[RepC];trivial
  ·exact h4.2.kept (h4.1 hl).2 hb
theorem zey {w:World} {B B':Nat} (hB:B≤B'):(∀x v,RepD w B x v→RepD w B' x v)∧(∀l b off,RepC w B l b off→RepC w B' l b off):=by
 have both:(∀x:Dat,∀v,RepD w B x v→RepD w B' x v):=by
  intro x
  refine Dat.rec (motive_1:=fun x=>∀v,RepD w B x v→RepD w B' x v) (motive_2:=fun l=>∀b off,RepC w B l b off→RepC w B' l b off) ?_ ?_ ?_ x
  ·intro k n d s l ih v h
   rw[RepD] at h ⊢
   obtain ⟨o,len,cap,rfl,h1,h2,h3,h4,h5,h6,h7,h8⟩:=h
   refine ⟨o,len,cap,rfl,h1,h2,h3,h4,h5,h6,h7,?_⟩
   cases o with
   | none=>exact h8
   | some a=>exact ⟨fun hl=>⟨(h8.1 hl).1,Nat.lt_of_lt_of_le (h8.1 hl).2 hB⟩,ih _ _ h8.2⟩
  ·intro b off _;rw[RepC];trivial
  ·intro x l ihx ihl b off h
   rw[RepC] at h ⊢
   obtain ⟨⟨c0,c1,c2,c3,c4,h0,h1,h2,h3,h4,h5⟩,h6⟩:=h
   exact ⟨⟨c0,c1,c2,c3,c4,h0,h1,h2,h3,h4,ihx _ h5⟩,ihl _ _ h6⟩
 refine ⟨both,?_⟩
 intro l
 induction l with
 | nil=>intro b off _;rw[RepC];trivial
 | cons x l ih=>
  intro b off h
  rw[RepC] at h ⊢
  obtain ⟨⟨c0,c1,c2,c3,c4,h0,h1,h2,h3,h4,h5⟩,h6⟩:=h
  exact ⟨⟨c0,c1,c2,c3,c4,h0,h1,h2,h3,h4,both _ _ h5⟩,ih _ _ h6⟩
theorem RepD.wider {w:World} {B B':Nat} {x:Dat} {v:Value} (h:RepD w B x v) (hB:B≤B'):RepD w B' x v:=(zey hB).1 x v h
theorem RepS.wider {w:World} {B B':Nat} {l:List Dat} {v:Value} (h:RepS w B l v) (hB:B≤B'):RepS w B' l v:=by
 obtain ⟨o,len,cap,rfl,h1,h2,h3,h4⟩:=h
 refine ⟨o,len,cap,rfl,h1,h2,h3,?_⟩
 cases o with
 | none=>exact h4
 | some a=>exact ⟨fun hl=>⟨(h4.1 hl).1,Nat.lt_of_lt_of_le (h4.1 hl).2 hB⟩,(zey hB).2 _ _ _ h4.2⟩
end
section
open Go.RowKit
theorem zkL:∀x:Dat,∀left:Int,0≤left→-1≤Dat.few x left:=by
 have hL:∀l:List Dat,(∀x∈l,∀left:Int,0≤left→-1≤Dat.few x left)→∀left:Int, -1≤left→-1≤Dat.fewL l left:=by
  intro l
  induction l with
  | nil=>intro _ left h;simpa[Dat.fewL] using h
  | cons x l ih=>
   intro hx left h
   rw[Dat.fewL]
   split
   ·exact ih (fun y hy=>hx y (by simp[hy])) _ (hx x (by simp) _ (by omega))
   ·exact h
 intro x
 induction x using Dat.ind with
 | h k n d s l ih=>
  intro left h
  rw[Dat.few]
  exact hL l ih _ (by omega)
theorem fewL_step {l:List Dat} {i:Nat} {x:Dat} {cur:Int} (h:l[i]?=some x) (hc:0≤cur):Dat.fewL (l.drop i) cur=Dat.fewL (l.drop (i+1)) (Dat.few x cur):=by
 have e:l.drop i=x::l.drop (i+1):=by
  obtain ⟨hi,he⟩:=List.getElem?_eq_some_iff.1 h
  rw[←he];exact List.drop_eq_getElem_cons hi
 rw[e,Dat.fewL,if_pos hc]
theorem fewL_neg (l:List Dat) {cur:Int} (hc:¬0≤cur):Dat.fewL l cur=cur:=by
 cases l with
 | nil=>rfl
 | cons x l=>rw[Dat.fewL,if_neg hc]
theorem zbf (w:World) (cs:Array Value) (t:TypeId) (i:Nat) {v:Value} (h:cs[i]?=some v):(w.alloc (.cells cs t)).cell? ⟨w.heap.size,i,none⟩=some v:=by
 have hn:(w.alloc (.cells cs t)).heap[w.heap.size]?=some (.cells cs t):=(MapKept.heap_alloc w _).1
 show (match (w.alloc (.cells cs t)).heap[w.heap.size]? with | some (.cells c _ _)=>_ | _=>_)=_
 rw[hn]
 simpa using h
theorem zhp {w wr:World} {B:Nat} {l:List Dat} {o:Option Addr} {cap j:Nat} {x:Dat} (h:match o with | none=>l=[]∧cap=0 | some a=>(l≠[]→a.spot=none∧a.block<B)∧RepC w B l a.block a.off)
  (hb:Below B w wr) (hx:l[j]?=some x) :
  ∃b off,o=some ⟨b,off,none⟩∧∃c0 c1 c2 c3 c4,wr.cell? ⟨b,off+j*5,none⟩=some c0∧wr.cell? ⟨b,off+j*5+1,none⟩=some c1∧wr.cell? ⟨b,off+j*5+2,none⟩=some c2∧wr.cell? ⟨b,off+j*5+3,none⟩=some c3∧wr.cell? ⟨b,off+j*5+4,none⟩=some c4∧RepD wr B x (.agg #[c0,c1,c2,c3,c4]):=by
 cases o with
 | none=>rw[h.1] at hx;simp at hx
 | some a=>
  have hl:l≠[]:=by rintro rfl;simp at hx
  obtain ⟨b,off,sp⟩:=a
  obtain ⟨hs,hlt⟩:=h.1 hl
  simp only at hs hlt
  subst hs
  exact ⟨b,off,rfl,(h.2.kept hlt hb).at j x hx⟩
theorem za8 {w wr:World} {B:Nat} {l:List Dat} {o:Option Addr} {cap j:Nat} {x:Dat} (h:match o with | none=>l=[]∧cap=0 | some a=>(l≠[]→a.spot=none∧a.block<B)∧RepC w B l a.block a.off)
  (hb:Below B w wr) (hx:l[j]?=some x) :
  ∃b off k n d s l' o' len' cap',o=some ⟨b,off,none⟩∧x=.mk k n d s l'∧wr.cell? ⟨b,off+j*5,none⟩=some (.int .i64 k)∧wr.cell? ⟨b,off+j*5+1,none⟩=some (.int .i64 n)∧wr.cell? ⟨b,off+j*5+2,none⟩=some (.int .i64 d) ∧
   wr.cell? ⟨b,off+j*5+3,none⟩=some (.string s)∧wr.cell? ⟨b,off+j*5+4,none⟩=some (.slice o' len' cap')∧RepD wr B (.mk k n d s l') (.agg #[.int .i64 k,.int .i64 n,.int .i64 d,.string s,.slice o' len' cap']):=by
 obtain ⟨b,off,ho,c0,c1,c2,c3,c4,e0,e1,e2,e3,e4,er⟩:=zhp h hb hx
 obtain ⟨k,n,d,s,l'⟩:=x
 obtain ⟨sl,hv,_,_,_,_,o',len',cap',hsl,_⟩:=er.open
 subst hsl
 simp only[Value.agg.injEq,Array.mk.injEq,List.cons.injEq,and_true] at hv
 obtain ⟨rfl,rfl,rfl,rfl,rfl⟩:=hv
 exact ⟨b,off,k,n,d,s,l',o',len',cap',ho,rfl,e0,e1,e2,e3,e4,er⟩
theorem ziN:∀(x:Dat) (v:Value) (left:Int) (B:Nat) (w:World),RepD w B x v→B≤w.heap.size→0≤left→left≤100000 →
  Calls prog 28 #[v,.int .i64 left] w fun e w'=>e=.returned (.int .i64 (Dat.few x left))∧Below w.heap.size w w':=by
 intro x
 induction x using Dat.ind with
 | h k n d s l ih=>
  intro v left B w hv hB h0 h1
  obtain ⟨sl,rfl,_,_,_,_,o,len,cap,rfl,hlen,hcap,hmax,hc⟩:=hv.open
  have IH:=zh ih
  have HV:=zh hc
  have HL:=zh hlen
  clear ih hv hc hlen
  go_enter func28,ntmps28
  go_wp2
  have hBox:∀wr,Below (w.heap.size+1) (w.alloc (.cells #[.int .i64 k,.int .i64 n,.int .i64 d,.string s,.slice o len cap] 41)) wr→wr.cell? ⟨w.heap.size,4,none⟩=some (.slice o len cap):=by
   intro wr hb
   rw[hb.cell (p:=⟨w.heap.size,4,none⟩) (by simp)]
   exact zbf _ _ _ _ (by simp)
  have HB:=zh hBox
  clear hBox
  go_loopw [1,5] (fun a i wr=>∃(cur:Int) (j:Nat),a=.int .i64 cur∧i=.int .i64 j∧j≤len∧-1≤cur∧cur≤100000∧Dat.fewL (l.drop j) cur=Dat.fewL l (left-1)∧Below (w.heap.size+1) (w.alloc (.cells #[.int .i64 k,.int .i64 n,.int .i64 d,.string s,.slice o len cap] 41)) wr) (fun _ i _=>len-(intOf i).toNat)
  case atStart=>exact ⟨left-1,0,rfl,rfl,by omega,by omega,by omega,rfl,Below.refl _ _⟩
  case round=>
   obtain ⟨cur,j,rfl,rfl,hj,hc1,hc2,hf,hb⟩:=hrel
   have HF:=zh hf
   clear hf
   have hcell:=HB.out _ hb
   by_cases hjl:j<len
   ·by_cases hcur:0≤cur
    ·obtain ⟨x,hx⟩:∃x,l[j]?=some x:=⟨_,List.getElem?_eq_getElem (by rw[←HL.out];exact hjl)⟩
     have hbw:Below w.heap.size w wr:=((Below.refl _ _).alloc (Nat.le_refl _) _).trans (hb.mono (by omega))
     obtain ⟨b,off,ho,c0,c1,c2,c3,c4,e0,e1,e2,e3,e4,er⟩:=zhp HV.out (hbw.mono hB) hx
     subst ho
     have HX:=zh hx
     have ER:=zh er
     have HF2:=zh ((fewL_step hx hcur).symm.trans HF.out)
     have g1:=zkL x cur hcur
     have g2:=Dat.few_le x cur
     have hsz:=hbw.size
     obtain ⟨y,hy⟩:∃y,Dat.few x cur=y:=⟨_,rfl⟩
     rw[hy] at g1 g2 HF2
     have HY:=zh hy
     clear hx er hy
     go_wp2_with (first | (go_at_call 28;refine (IH.out x (List.mem_of_getElem? HX.out) _ _ B _ ER.out (by omega) (by omega) (by omega)).mono ?_;rw[HY.out];rintro e' w1 ⟨rfl,hb1⟩))
     go_roundw
     case rel=>exact ⟨y,j+1,rfl,by go_num,by omega,by omega,by omega,HF2.out,hb.trans (hb1.mono (by have:=hb.size;simp at this;omega))⟩
     case measure=>simp[intOf];omega
    ·have HR:=zh (show Dat.fewL l (left-1)=cur by rw[←HF.out,fewL_neg _ hcur])
     go_wp2
     go_ret
     exact ⟨zbj (by rw[Dat.few];exact HR.out.symm),((Below.refl _ _).alloc (Nat.le_refl _) _).trans (hb.mono (by omega))⟩
   ·have HR:=zh (show Dat.fewL l (left-1)=cur by
     rw[←HF.out,List.drop_eq_nil_of_le (by rw[←HL.out];omega)];rfl)
    go_wp2
    go_ret
    exact ⟨zbj (by rw[Dat.few];exact HR.out.symm),((Below.refl _ _).alloc (Nat.le_refl _) _).trans (hb.mono (by omega))⟩
end
section
open Go.RowKit
end
section
open Go.RowKit
namespace Num
def digs:List UInt8:=[48,49,50,51,52,53,54,55,56,57]
theorem ze8 (b:UInt8):digs.contains b=isDigit b:=by
 have:∀k:Fin 256,digs.contains (UInt8.ofNat k.val)=isDigit (UInt8.ofNat k.val):=by decide +kernel
 have e:b=UInt8.ofNat b.toNat:=by simp
 rw[e]
 exact this ⟨b.toNat,b.toNat_lt⟩
theorem zdw {α:Type} (p:α→Bool) (l:List α):l.dropWhile p=[]↔∀b∈l,p b=true:=by
 induction l with
 | nil=>simp
 | cons c l ih=>
  simp only[List.dropWhile_cons,List.mem_cons,forall_eq_or_imp]
  split
  ·rename_i h;simp[h,ih]
  ·rename_i h;simp[h]
theorem zdA {α:Type} {p:α→Bool} {l:List α} {b:α} (h:b∈l) (hb:p b=false):b∈l.dropWhile p:=by
 induction l with
 | nil=>cases h
 | cons c l ih=>
  rw[List.dropWhile_cons]
  split
  ·rename_i hc
   rcases List.mem_cons.1 h with rfl | h
   ·rw[hb] at hc;cases hc
   ·exact ih h
  ·exact h
theorem trimS_nil (l cs:List UInt8):Lib.trimS l cs=[]↔∀b∈l,cs.contains b=true:=by
 unfold Lib.trimS Lib.trimLeftS Lib.trimRightS
 rw[zdw]
 constructor
 ·intro h b hb
  cases hc:cs.contains b with
  | true=>rfl
  | false=>
   have h1:b∈l.reverse.dropWhile (cs.contains ·):=zdA (by simpa using hb) hc
   have:=h b (by simpa using h1)
   rw[hc] at this;exact this
 ·intro h b hb
  have h1:b∈l.reverse.dropWhile (cs.contains ·):=by simpa using hb
  have:b∈l.reverse:=(List.dropWhile_sublist _).mem h1
  exact h b (by simpa using this)
theorem digitVal_some {b:UInt8} (h:isDigit b=true):Lib.digitVal b=some (b.toNat-48):=by
 simp only[isDigit,Bool.and_eq_true,decide_eq_true_eq] at h
 unfold Lib.digitVal;rw[if_pos h]
theorem zdT {b:UInt8} (h:isDigit b=false):Lib.digitVal b=none:=by
 unfold Lib.digitVal
 rw[if_neg]
 intro hc
 simp[isDigit,hc] at h
theorem za1:∀(l:List UInt8) (acc:Nat),(∀b∈l,isDigit b=true)→∃m,Lib.decFrom acc l=some m
 | [],acc,_=>⟨acc,rfl⟩
 | c::l,acc,h=>by
  simp only[Lib.decFrom,digitVal_some (h c (by simp))]
  exact za1 l _ (fun b hb=>h b (by simp[hb]))
theorem zbh:∀(l:List UInt8) (acc:Nat),(∃b∈l,isDigit b=false)→Lib.decFrom acc l=none
 | [],acc,h=>by obtain ⟨b,hb,_⟩:=h;cases hb
 | c::l,acc,h=>by
  obtain ⟨b,hb,hd⟩:=h
  simp only[Lib.decFrom]
  cases hc:isDigit c with
  | false=>rw[zdT hc]
  | true=>
   rw[digitVal_some hc]
   refine zbh l _ ⟨b,?_,hd⟩
   rcases List.mem_cons.1 hb with rfl | hb
   ·rw[hc] at hd;cases hd
   ·exact hb
theorem nat?_cases (l:List UInt8):(nat? l=none∧(l.length=0∨10<l.length∨(l.length≤10∧Lib.trimS l digs≠[]))) ∨
  (∃m:Nat,nat? l=some m∧l.length≠0∧l.length≤10∧Lib.trimS l digs=[]∧Lib.atoi l=some (m:Int)∧m<10000000000):=by
 by_cases h0:l.length=0
 ·left
  refine ⟨?_,.inl h0⟩
  have:l=[]:=List.length_eq_zero_iff.1 h0
  subst this;rfl
 by_cases h1:10<l.length
 ·left
  exact ⟨by unfold nat?;rw[if_neg (by omega)],.inr (.inl h1)⟩
 by_cases h2:Lib.trimS l digs=[]
 ·right
  have hd:∀b∈l,isDigit b=true:=fun b hb=>by rw[←ze8];exact (trimS_nil _ _).1 h2 b hb
  obtain ⟨m,hm⟩:=za1 l 0 hd
  have hn:Lib.decNat l=some m:=by
   unfold Lib.decNat
   rw[if_neg (by simpa using fun e:l=[]=>h0 (by rw[e];rfl)),hm]
  refine ⟨m,by unfold nat?;rw[if_pos (by omega),hn],h0,by omega,h2,?_,?_⟩
  ·match l,h0 with
   | c::r,_=>
    have hc:=hd c (by simp)
    simp only[isDigit,Bool.and_eq_true,decide_eq_true_eq] at hc
    simp only[Lib.atoi]
    rw[if_neg (by simp only[beq_iff_eq];rintro rfl;simp at hc),if_neg (by simp only[beq_iff_eq];rintro rfl;simp at hc),hn]
    rfl
  ·have:=Lib.decFrom_lt l 0 m hm
   have hp:10 ^ l.length≤10 ^ 10:=Nat.pow_le_pow_right (by omega) (by omega)
   omega
 ·left
  refine ⟨?_,.inr (.inr ⟨by omega,h2⟩)⟩
  have:∃b∈l,isDigit b=false:=by
   apply Decidable.byContradiction
   intro hc
   apply h2
   rw[trimS_nil]
   intro b hb
   rw[ze8]
   cases hd:isDigit b with
   | true=>rfl
   | false=>exact absurd ⟨b,hb,hd⟩ hc
  unfold nat?
  split
  ·unfold Lib.decNat
   split
   ·rfl
   ·exact zbh l 0 this
  ·rfl
end Num
theorem zgY (s:ByteArray) (T:List UInt8) (hs:s.size≤9223372036854775807) (hT:Lib.trimS s.data.toList Num.digs=T) (w:World) :
  Calls prog 101 #[.string s,.string ⟨#[48,49,50,51,52,53,54,55,56,57]⟩] w fun e w'=>e=.returned (.string ⟨T.toArray⟩)∧Below w.heap.size w w':=by
 have:=zfi s ⟨#[48,49,50,51,52,53,54,55,56,57]⟩ hs (by decide) (by decide) w
 rw[show (⟨#[48,49,50,51,52,53,54,55,56,57]⟩:ByteArray).data.toList=Num.digs from rfl,hT] at this
 exact this
theorem zeO (s:ByteArray) (hs:s.size≤9223372036854775807) (w:World) :
  Calls prog 118 #[.string s] w fun e w'=>e=.returned (.tuple #[.int .i64 (((Num.nat? s.data.toList).getD 0:Nat):Int),.bool (Num.nat? s.data.toList).isSome])∧Below w.heap.size w w':=by
 have hl:s.data.toList.length=s.size:=rfl
 rcases Num.nat?_cases s.data.toList with ⟨hn,h⟩ | ⟨m,hn,h0,h1,h2,h3,h4⟩
 ·have HN:=zh hn
  rw[hl] at h
  clear hl hn
  rcases h with h | h | ⟨h,ht⟩
  ·go_enter func118,ntmps118
   go_wp2
   go_ret2
   exact ⟨by rw[HN.out];rfl,Below.self _⟩
  ·have hz:((s.size:Int)==0)=false:=by simp;rintro rfl;simp at h
   have hne:¬s=ByteArray.empty:=by rintro rfl;simp at h
   go_enter func118,ntmps118
   go_wp2
   go_ret2
   exact ⟨by rw[HN.out];rfl,Below.self _⟩
  ·by_cases h0:s.size=0
   ·go_enter func118,ntmps118
    go_wp2
    go_ret2
    exact ⟨by rw[HN.out];rfl,Below.self _⟩
   have hne:¬s=ByteArray.empty:=by rintro rfl;simp at h0
   have hz:((s.size:Int)==0)=false:=by simpa using hne
   obtain ⟨T,hT⟩:∃T,Lib.trimS s.data.toList Num.digs=T:=⟨_,rfl⟩
   rw[hT] at ht
   have HT:=zh hT
   clear hT
   have he:T.isEmpty=false:=by simpa using ht
   go_enter func118,ntmps118
   go_wp2_with (first | (go_at_call 101;refine (zgY s T hs HT.out _).mono ?_;rintro e' w1 ⟨rfl,hb⟩))
   go_ret2
   exact ⟨by rw[HN.out];rfl,hb⟩
 ·have HN:=zh hn
  have H2:=zh h2
  have H3:=zh h3
  rw[hl] at h0 h1
  have hne:¬s=ByteArray.empty:=by rintro rfl;simp at h0
  have hz:((s.size:Int)==0)=false:=by simpa using hne
  clear hl hn h2 h3
  go_enter func118,ntmps118
  go_wp2_with (first | (go_at_call 101;refine (zgY s [] hs H2.out _).mono ?_;rintro e' w1 ⟨rfl,hb⟩) | (go_at_call 129;refine (zj4 s m (by omega) H3.out _).mono ?_;rintro e' w2 ⟨rfl,hb2⟩))
  go_quiet (fail)
  go_wp2
  go_ret2
  exact ⟨by rw[HN.out];rfl,Below.drewN (Below.next hb hb2) _⟩
end
section
open Go.RowKit
namespace Num
theorem indexByte_slash (l:List UInt8):(Lib.indexByte l 47 = -1∧l.takeWhile noSlash=l∧l.dropWhile noSlash=[]) ∨
  (∃i:Nat,Lib.indexByte l 47=i∧i<l.length∧l.takeWhile noSlash=l.take i∧l.dropWhile noSlash=47::l.drop (i+1)):=by
 induction l with
 | nil=>left;exact ⟨rfl,rfl,rfl⟩
 | cons b l ih=>
  by_cases hb:b=47
  ·subst hb
   right
   exact ⟨0,by simp[Lib.indexByte],by simp,by simp[noSlash],by simp[noSlash]⟩
  ·have hn:noSlash b=true:=by simpa[noSlash] using hb
   have hb0:(b==47)=false:=by simpa using hb
   rcases ih with ⟨h1,h2,h3⟩ | ⟨i,h1,h2,h3,h4⟩
   ·left
    refine ⟨by simp[Lib.indexByte,hb0,h1],by simp[hn,h2],by simp[hn,h3]⟩
   ·right
    refine ⟨i+1,?_,by simp;omega,by simp[hn,h3],by simp[hn,h4]⟩
    have hne:((i:Int) == -1)=false:=by simp
    simp only[Lib.indexByte,hb0,h1,hne]
    simp
end Num
theorem za4 (s:ByteArray) (a b:Nat):s.extract a b=⟨((s.data.toList.take b).drop a).toArray⟩:=by
 apply ByteArray.ext
 rw[ByteArray.data_extract]
 apply Array.ext'
 simp[Array.toList_extract,List.extract_eq_take_drop,List.drop_take]
theorem zi7 (s:ByteArray):(⟨s.data.toList.toArray⟩:ByteArray)=s:=by
 obtain ⟨⟨l⟩⟩:=s;rfl
theorem zhz {a b a' b':ByteArray} {c c':Bool} (h1:a=a') (h2:b=b') (h3:c=c'):Ending.returned (.tuple #[.string a,.string b,.bool c])=.returned (.tuple #[.string a',.string b',.bool c']):=by
 rw[h1,h2,h3]
theorem zeE (s:ByteArray) (hs:s.size≤9223372036854775807) (w:World) :
  Calls prog 128 #[.string s,.string ⟨#[47]⟩] w fun e w'=>e=.returned (.tuple #[.string ⟨(s.data.toList.takeWhile Num.noSlash).toArray⟩,.string ⟨((s.data.toList.dropWhile Num.noSlash).tail).toArray⟩,.bool (!(s.data.toList.dropWhile Num.noSlash).isEmpty)])∧Below w.heap.size w w':=by
 have hl:s.data.toList.length=s.size:=rfl
 have hI:=stringslite_Index_one s 47
 rcases Num.indexByte_slash s.data.toList with ⟨h1,h2,h3⟩ | ⟨i,h1,h2,h3,h4⟩
 ·rw[h1] at hI
  have HI:=zh hI
  rw[h2,h3]
  clear hI h1 h2 h3
  go_enter func128,ntmps128
  go_wp2_with (first | (go_at_call 135;refine (HI.out _).mono ?_;rintro e' w1 ⟨rfl,rfl⟩))
  go_ret3
  exact ⟨zhz (zi7 s).symm rfl rfl,Below.self _⟩
 ·rw[h1] at hI
  have HI:=zh hI
  rw[h3,h4]
  rw[hl] at h2
  clear hI h1 h3 h4
  go_enter func128,ntmps128
  go_wp2_with (first | (go_at_call 135;refine (HI.out _).mono ?_;rintro e' w1 ⟨rfl,rfl⟩))
  go_quiet (fail)
  go_wp2
  go_ret3
  exact ⟨zhz (by rw[za4];simp) (by rw[za4,←hl,List.take_length];rfl) rfl,Below.selfN _ _⟩
theorem zlW (s:ByteArray) (hs:s.size≤9223372036854775807) (w:World) :
  Calls prog 117 #[.string s,.string ⟨#[47]⟩] w fun e w'=>e=.returned (.tuple #[.string ⟨(s.data.toList.takeWhile Num.noSlash).toArray⟩,.string ⟨((s.data.toList.dropWhile Num.noSlash).tail).toArray⟩,.bool (!(s.data.toList.dropWhile Num.noSlash).isEmpty)])∧Below w.heap.size w w':=by
 obtain ⟨A,hA⟩:∃A,s.data.toList.takeWhile Num.noSlash=A:=⟨_,rfl⟩
 obtain ⟨B,hB⟩:∃B,(s.data.toList.dropWhile Num.noSlash).tail=B:=⟨_,rfl⟩
 obtain ⟨c,hc⟩:∃c,(!(s.data.toList.dropWhile Num.noSlash).isEmpty)=c:=⟨_,rfl⟩
 have hI:=zeE s hs w
 rw[hA,hB,hc] at hI ⊢
 have HI:=zh hI
 clear hI hA hB hc
 go_enter func117,ntmps117
 go_wp2_with (first | (go_at_call 128;refine HI.out.mono ?_;rintro e' w1 ⟨rfl,hb⟩))
 go_ret3
 exact ⟨rfl,hb⟩
theorem zcr (l A B:List UInt8) (c:Bool) (hA:l.takeWhile Num.noSlash=A) (hB:(l.dropWhile Num.noSlash).tail=B) (hc:(!(l.dropWhile Num.noSlash).isEmpty)=c) (hs:l.length≤9223372036854775807) (w:World) :
  Calls prog 117 #[.string ⟨l.toArray⟩,.string ⟨#[47]⟩] w fun e w'=>e=.returned (.tuple #[.string ⟨A.toArray⟩,.string ⟨B.toArray⟩,.bool c])∧Below w.heap.size w w':=by
 have:=zlW ⟨l.toArray⟩ (by simpa[ByteArray.size] using hs) w
 simp only[hA,hB,hc] at this
 exact this
theorem zay (l:List UInt8) (o:Option Nat) (ho:Num.nat? l=o) (hs:l.length≤9223372036854775807) (w:World) :
  Calls prog 118 #[.string ⟨l.toArray⟩] w fun e w'=>e=.returned (.tuple #[.int .i64 ((o.getD 0:Nat):Int),.bool o.isSome])∧Below w.heap.size w w':=by
 have:=zeO ⟨l.toArray⟩ (by simpa[ByteArray.size] using hs) w
 simp only[ho] at this
 exact this
theorem zaI (s:ByteArray) (l:List UInt8) (neg:Bool) (h1:Lib.trimPrefix s.data.toList [45]=l) (h2:Lib.hasPrefix s.data.toList [45]=neg) (w:World) :
  Calls prog 116 #[.string s,.string ⟨#[45]⟩] w fun e w'=>e=.returned (.tuple #[.string ⟨l.toArray⟩,.bool neg])∧Below w.heap.size w w':=by
 refine (strings_CutPrefix s ⟨#[45]⟩ w).mono ?_
 rintro e w' ⟨rfl,rfl⟩
 rw[show (⟨#[45]⟩:ByteArray).data.toList=[45] from rfl,h1,h2]
 exact ⟨rfl,Below.self _⟩
namespace Num
theorem nat?_lt {l:List UInt8} {m:Nat} (h:nat? l=some m):m<10000000000:=by
 rcases nat?_cases l with ⟨h1,_⟩ | ⟨k,h1,_,_,_,_,h2⟩
 ·rw[h1] at h;cases h
 ·rw[h1] at h;cases h;exact h2
theorem parse_cases (l:List UInt8):∃(neg:Bool) (r:List UInt8),Lib.trimPrefix l [45]=r∧Lib.hasPrefix l [45]=neg∧parse l=parseU neg r∧r.length≤l.length:=by
 cases l with
 | nil=>exact ⟨false,[],rfl,rfl,rfl,Nat.le_refl _⟩
 | cons b r=>
  by_cases hb:b=45
  ·subst hb
   exact ⟨true,r,by simp[Lib.trimPrefix,Lib.hasPrefix],by simp[Lib.hasPrefix],rfl,by simp⟩
  ·have hb0:((45:UInt8)==b)=false:=by simpa using fun h:(45:UInt8)=b=>hb h.symm
   have hp:Lib.hasPrefix (b::r) [45]=false:=by
    unfold Lib.hasPrefix
    simp only[List.isPrefixOf,hb0,Bool.false_and]
   refine ⟨false,b::r,by unfold Lib.trimPrefix;rw[hp];rfl,hp,?_,Nat.le_refl _⟩
   unfold parse
   split
   ·rename_i h;simp only[List.cons.injEq] at h;exact absurd h.1 hb
   ·rfl
theorem parseU_cases (neg:Bool) (r:List UInt8):∃(A B C:List UInt8) (c:Bool) (oA oC:Option Nat),r.takeWhile noSlash=A∧(r.dropWhile noSlash).tail=B∧(!(r.dropWhile noSlash).isEmpty)=c ∧
  C=(if c=true then B else [49])∧nat? A=oA∧nat? C=oC∧A.length≤r.length∧C.length≤r.length+1 ∧
  parseU neg r=(match oA,oC with
   | some n,some d=>((mk (if neg then -(n:Int) else n) d).1,(mk (if neg then -(n:Int) else n) d).2.1,decide ((mk (if neg then -(n:Int) else n) d).2.2=0))
   | _,_=>(0,0,false)):=by
 refine ⟨_,_,_,_,_,_,rfl,rfl,rfl,rfl,rfl,rfl,(List.takeWhile_sublist _).length_le,?_,?_⟩
 ·split
  ·have:=(List.dropWhile_sublist noSlash (l:=r)).length_le
   simp only[List.length_tail];omega
  ·simp
 ·unfold parseU lower
  cases r.dropWhile noSlash<;>rfl
end Num
theorem za3 {a b:Int} {p q:Bool} {P:Int × Int × Bool} (h:P=(a,b,q)) (h':p=q):Ending.returned (.tuple #[.int .i64 a,.int .i64 b,.bool p])=.returned (.tuple #[.int .i64 P.1,.int .i64 P.2.1,.bool P.2.2]):=by
 rw[h,h']
theorem zgO (s:ByteArray) (hs:s.size≤9223372036854775806) (w:World) :
  Calls prog 103 #[.string s] w fun e w'=>e=.returned (.tuple #[.int .i64 (Num.parse s.data.toList).1,.int .i64 (Num.parse s.data.toList).2.1,.bool (Num.parse s.data.toList).2.2])∧Below w.heap.size w w':=by
 have hl:s.data.toList.length=s.size:=rfl
 obtain ⟨neg,r,h1,h2,h3,h4⟩:=Num.parse_cases s.data.toList
 obtain ⟨A,B,C,c,oA,oC,k1,k2,k3,k4,k5,k6,k7,k8,k9⟩:=Num.parseU_cases neg r
 rw[hl] at h4
 rw[k9] at h3
 have H1:=zh h1
 have H2:=zh h2
 have K1:=zh k1
 have K2:=zh k2
 have K3:=zh k3
 have K5:=zh k5
 have K6:=zh k6
 have HP:=zh h3
 clear hl h1 h2 h3 k9 k1 k2 k3
 have e0:s.size≤9223372036854775807:=by omega
 cases oA with
 | none=>
  cases c
  ·simp only[Bool.false_eq_true,if_false] at k4
   first | (have k4:=k4.symm;subst k4;have _u:=B) | subst k4
   go_enter func103,ntmps103
   go_wp2_with (first | (go_at_call 116;refine (zaI s r _ H1.out H2.out _).mono ?_;rintro e' w1 ⟨rfl,hb⟩) | (go_at_call 117;refine (zcr r A B _ K1.out K2.out K3.out (by omega) _).mono ?_;rintro e' w2 ⟨rfl,hb'⟩;have hb2:=Below.next hb hb';clear hb') | (go_at_call 118;((with_reducible refine (zay A _ K5.out (by omega) _).mono ?_);rintro e' w3 ⟨rfl,hb'⟩;have hb3:=Below.next hb2 hb';clear hb')) | (go_at_call 118;((with_reducible refine (zay [49] _ K6.out (by first | omega | (simp only[List.length_cons,List.length_nil];omega)) _).mono ?_);rintro e' w4 ⟨rfl,hb'⟩;have hb4:=Below.next hb3 hb';clear hb')))
   all_goals go_ret3
   all_goals exact ⟨za3 HP.out rfl,by assumption⟩
  ·simp only[if_true] at k4
   first | (have k4:=k4.symm;subst k4;have _u:=B) | subst k4
   go_enter func103,ntmps103
   go_wp2_with (first | (go_at_call 116;refine (zaI s r _ H1.out H2.out _).mono ?_;rintro e' w1 ⟨rfl,hb⟩) | (go_at_call 117;refine (zcr r A B _ K1.out K2.out K3.out (by omega) _).mono ?_;rintro e' w2 ⟨rfl,hb'⟩;have hb2:=Below.next hb hb';clear hb') | (go_at_call 118;((with_reducible refine (zay A _ K5.out (by omega) _).mono ?_);rintro e' w3 ⟨rfl,hb'⟩;have hb3:=Below.next hb2 hb';clear hb')) | (go_at_call 118;((with_reducible refine (zay B _ K6.out (by first | omega | (simp only[List.length_cons,List.length_nil];omega)) _).mono ?_);rintro e' w4 ⟨rfl,hb'⟩;have hb4:=Below.next hb3 hb';clear hb')))
   all_goals go_ret3
   all_goals exact ⟨za3 HP.out rfl,by assumption⟩
 | some n=>
  have hn:=Num.nat?_lt k5
  cases oC with
  | none=>
   cases c
   ·simp only[Bool.false_eq_true,if_false] at k4
    first | (have k4:=k4.symm;subst k4;have _u:=B) | subst k4
    go_enter func103,ntmps103
    go_wp2_with (first | (go_at_call 116;refine (zaI s r _ H1.out H2.out _).mono ?_;rintro e' w1 ⟨rfl,hb⟩) | (go_at_call 117;refine (zcr r A B _ K1.out K2.out K3.out (by omega) _).mono ?_;rintro e' w2 ⟨rfl,hb'⟩;have hb2:=Below.next hb hb';clear hb') | (go_at_call 118;((with_reducible refine (zay A _ K5.out (by omega) _).mono ?_);rintro e' w3 ⟨rfl,hb'⟩;have hb3:=Below.next hb2 hb';clear hb')) | (go_at_call 118;((with_reducible refine (zay [49] _ K6.out (by first | omega | (simp only[List.length_cons,List.length_nil];omega)) _).mono ?_);rintro e' w4 ⟨rfl,hb'⟩;have hb4:=Below.next hb3 hb';clear hb')))
    all_goals go_ret3
    all_goals exact ⟨za3 HP.out rfl,by assumption⟩
   ·simp only[if_true] at k4
    first | (have k4:=k4.symm;subst k4;have _u:=B) | subst k4
    go_enter func103,ntmps103
    go_wp2_with (first | (go_at_call 116;refine (zaI s r _ H1.out H2.out _).mono ?_;rintro e' w1 ⟨rfl,hb⟩) | (go_at_call 117;refine (zcr r A B _ K1.out K2.out K3.out (by omega) _).mono ?_;rintro e' w2 ⟨rfl,hb'⟩;have hb2:=Below.next hb hb';clear hb') | (go_at_call 118;((with_reducible refine (zay A _ K5.out (by omega) _).mono ?_);rintro e' w3 ⟨rfl,hb'⟩;have hb3:=Below.next hb2 hb';clear hb')) | (go_at_call 118;((with_reducible refine (zay B _ K6.out (by first | omega | (simp only[List.length_cons,List.length_nil];omega)) _).mono ?_);rintro e' w4 ⟨rfl,hb'⟩;have hb4:=Below.next hb3 hb';clear hb')))
    all_goals go_ret3
    all_goals exact ⟨za3 HP.out rfl,by assumption⟩
  | some d=>
   have hd:=Num.nat?_lt k6
   cases neg with
   | true=>
    obtain ⟨x,y,z,hm⟩:∃x y z,Num.mk (-(n:Int)) d=(x,y,z):=⟨_,_,_,rfl⟩
    have HM:=zh hm
    have HF:=zh (show Num.parse s.data.toList=(x,y,decide (z=0)) by rw[HP.out];simp[hm])
    clear hm
    cases c
    ·simp only[Bool.false_eq_true,if_false] at k4
     first | (have k4:=k4.symm;subst k4;have _u:=B) | subst k4
     go_enter func103,ntmps103
     go_wp2_with (first | (go_at_call 116;refine (zaI s r _ H1.out H2.out _).mono ?_;rintro e' w1 ⟨rfl,hb⟩) | (go_at_call 117;refine (zcr r A B _ K1.out K2.out K3.out (by omega) _).mono ?_;rintro e' w2 ⟨rfl,hb'⟩;have hb2:=Below.next hb hb';clear hb') | (go_at_call 118;((with_reducible refine (zay A _ K5.out (by omega) _).mono ?_);rintro e' w3 ⟨rfl,hb'⟩;have hb3:=Below.next hb2 hb';clear hb')) | (go_at_call 118;((with_reducible refine (zay [49] _ K6.out (by first | omega | (simp only[List.length_cons,List.length_nil];omega)) _).mono ?_);rintro e' w4 ⟨rfl,hb'⟩;have hb4:=Below.next hb3 hb';clear hb')) | (go_at_call 119;refine (zdR (-(n:Int)) d x y z HM.out (by omega) (by omega) (by omega) (by omega) _).mono ?_;rintro e' w5 ⟨rfl,k,rfl⟩))
     go_ret3
     exact ⟨za3 HF.out (by first | rfl | simp),Below.drewN hb4 _⟩
    ·simp only[if_true] at k4
     first | (have k4:=k4.symm;subst k4;have _u:=B) | subst k4
     go_enter func103,ntmps103
     go_wp2_with (first | (go_at_call 116;refine (zaI s r _ H1.out H2.out _).mono ?_;rintro e' w1 ⟨rfl,hb⟩) | (go_at_call 117;refine (zcr r A B _ K1.out K2.out K3.out (by omega) _).mono ?_;rintro e' w2 ⟨rfl,hb'⟩;have hb2:=Below.next hb hb';clear hb') | (go_at_call 118;((with_reducible refine (zay A _ K5.out (by omega) _).mono ?_);rintro e' w3 ⟨rfl,hb'⟩;have hb3:=Below.next hb2 hb';clear hb')) | (go_at_call 118;((with_reducible refine (zay B _ K6.out (by first | omega | (simp only[List.length_cons,List.length_nil];omega)) _).mono ?_);rintro e' w4 ⟨rfl,hb'⟩;have hb4:=Below.next hb3 hb';clear hb')) | (go_at_call 119;refine (zdR (-(n:Int)) d x y z HM.out (by omega) (by omega) (by omega) (by omega) _).mono ?_;rintro e' w5 ⟨rfl,k,rfl⟩))
     go_ret3
     exact ⟨za3 HF.out (by first | rfl | simp),Below.drewN hb4 _⟩
   | false=>
    obtain ⟨x,y,z,hm⟩:∃x y z,Num.mk (n:Int) d=(x,y,z):=⟨_,_,_,rfl⟩
    have HM:=zh hm
    have HF:=zh (show Num.parse s.data.toList=(x,y,decide (z=0)) by rw[HP.out];simp[hm])
    clear hm
    cases c
    ·simp only[Bool.false_eq_true,if_false] at k4
     first | (have k4:=k4.symm;subst k4;have _u:=B) | subst k4
     go_enter func103,ntmps103
     go_wp2_with (first | (go_at_call 116;refine (zaI s r _ H1.out H2.out _).mono ?_;rintro e' w1 ⟨rfl,hb⟩) | (go_at_call 117;refine (zcr r A B _ K1.out K2.out K3.out (by omega) _).mono ?_;rintro e' w2 ⟨rfl,hb'⟩;have hb2:=Below.next hb hb';clear hb') | (go_at_call 118;((with_reducible refine (zay A _ K5.out (by omega) _).mono ?_);rintro e' w3 ⟨rfl,hb'⟩;have hb3:=Below.next hb2 hb';clear hb')) | (go_at_call 118;((with_reducible refine (zay [49] _ K6.out (by first | omega | (simp only[List.length_cons,List.length_nil];omega)) _).mono ?_);rintro e' w4 ⟨rfl,hb'⟩;have hb4:=Below.next hb3 hb';clear hb')) | (go_at_call 119;refine (zdR (n:Int) d x y z HM.out (by omega) (by omega) (by omega) (by omega) _).mono ?_;rintro e' w5 ⟨rfl,k,rfl⟩))
     go_ret3
     exact ⟨za3 HF.out (by first | rfl | simp),Below.drewN hb4 _⟩
    ·simp only[if_true] at k4
     first | (have k4:=k4.symm;subst k4;have _u:=B) | subst k4
     go_enter func103,ntmps103
     go_wp2_with (first | (go_at_call 116;refine (zaI s r _ H1.out H2.out _).mono ?_;rintro e' w1 ⟨rfl,hb⟩) | (go_at_call 117;refine (zcr r A B _ K1.out K2.out K3.out (by omega) _).mono ?_;rintro e' w2 ⟨rfl,hb'⟩;have hb2:=Below.next hb hb';clear hb') | (go_at_call 118;((with_reducible refine (zay A _ K5.out (by omega) _).mono ?_);rintro e' w3 ⟨rfl,hb'⟩;have hb3:=Below.next hb2 hb';clear hb')) | (go_at_call 118;((with_reducible refine (zay B _ K6.out (by first | omega | (simp only[List.length_cons,List.length_nil];omega)) _).mono ?_);rintro e' w4 ⟨rfl,hb'⟩;have hb4:=Below.next hb3 hb';clear hb')) | (go_at_call 119;refine (zdR (n:Int) d x y z HM.out (by omega) (by omega) (by omega) (by omega) _).mono ?_;rintro e' w5 ⟨rfl,k,rfl⟩))
     go_ret3
     exact ⟨za3 HF.out (by first | rfl | simp),Below.drewN hb4 _⟩
end
end Go.Proofs.YtdcajmeeeoofgaaGreatDoor
