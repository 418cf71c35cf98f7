/- .. -/
import Derived.WalkSpells
import Derived.Deep.Quiet
import Derived.StillTail
import Derived.BigQuiet
import Derived.RangeFuncBox
import Derived.Lib.ConvBytes
import Derived.Lib.IndexAny
import Derived.Test.YtnbjhmafnigefaaGreatDoorSckA01
open Go.Proofs.Tryz
set_option maxRecDepth 100000
set_option maxHeartbeats 16000000
namespace Go.Proofs.YtnbjhmafnigefaaGreatDoor
section
open Go.RowKit
theorem zez {l m:List UInt8} (h:l=m):Ending.returned (.string ⟨l.toArray⟩)=.returned (.string ⟨m.toArray⟩):=by rw[h]
theorem zkS (n d:Int) (h0:-9223372036854775808<=n) (h1:n<=9223372036854775807) (h2:-9223372036854775808<=d) (h3:d<=9223372036854775807) (w:World) (hE:Env w) :
  Calls prog 71 #[.int .i64 n,.int .i64 d] w fun e w'=>e=.returned (.string ⟨(Num.text n d).toArray⟩)∧Below w.heap.size w w':=by
 cases hr:Num.right n d
 ·have HK:=zh (show Num.text n d=[] by simp[Num.text,hr])
  have HR:=zh hr
  go_enter func71,ntmps71
  go_wp2_with (first | (go_at_call 81;refine (zdG n d false HR.out (by omega) (by omega) (by omega) (by omega) _).mono ?_;rintro e' w1 ⟨rfl,k,rfl⟩))
  go_ret
  exact ⟨zez (l:=[]) HK.out.symm,Below.selfN _ _⟩
 have HR:=zh hr
 by_cases hd:d=1
 ·subst hd
  have HK:=zh (show Num.text n 1=Lib.itoa n by simp[Num.text,hr])
  clear hr
  go_enter func71,ntmps71
  go_wp2_with (first | (go_at_call 81;refine (zdG n 1 true HR.out (by omega) (by omega) (by omega) (by omega) _).mono ?_;rintro e' w1 ⟨rfl,k,rfl⟩) | (go_at_call 98;refine (zdD n (by omega) (by omega) _ (Env.drewN hE _)).mono ?_;rintro e' w1 ⟨rfl,hb⟩))
  go_ret
  exact ⟨zez HK.out.symm,Below.ofN hb⟩
 ·have hd1:(d==1)=false:=by simpa using hd
  have HK:=zh (show Num.text n d=Lib.itoa n++47::Lib.itoa d by simp[Num.text,hr,hd])
  clear hr
  have l1:=Lib.itoa_length_le n (by omega) (by omega)
  have l2:=Lib.itoa_length_le d (by omega) (by omega)
  go_enter func71,ntmps71
  go_wp2_with (first | (go_at_call 81;refine (zdG n d true HR.out (by omega) (by omega) (by omega) (by omega) _).mono ?_;rintro e' w1 ⟨rfl,k,rfl⟩) | (go_at_call 98;with_reducible refine (zdD n (by omega) (by omega) _ (Env.drewN hE _)).mono ?_;rintro e' w1 ⟨rfl,hb⟩) | (go_at_call 98;with_reducible refine (zdD d (by omega) (by omega) _ (Env.below (Env.drewN hE _) (by assumption))).mono ?_;rintro e' w2 ⟨rfl,hb2⟩))
  go_ret
  refine ⟨?_,Below.next (Below.ofN hb) hb2⟩
  rw[HK.out]
  show Ending.returned (.string ((⟨(Lib.itoa n).toArray⟩++⟨[47].toArray⟩)++⟨(Lib.itoa d).toArray⟩))=_
  rw[zgW,zgW]
  simp
end
section
open Go.RowKit
namespace Num
def digs:List UInt8:=[48,49,50,51,52,53,54,55,56,57]
theorem zhK (b:UInt8):digs.contains b=isDigit b:=by
 have:∀k:Fin 256,digs.contains (UInt8.ofNat k.val)=isDigit (UInt8.ofNat k.val):=by decide +kernel
 have e:b=UInt8.ofNat b.toNat:=by simp
 rw[e]
 exact this ⟨b.toNat,b.toNat_lt⟩
theorem zfy {α:Type} (p:α->Bool) (l:List α):l.dropWhile p=[]↔∀b∈l,p b=true:=by
 induction l with
 | nil=>simp
 | cons c l ih=>
  simp only[List.dropWhile_cons,List.mem_cons,forall_eq_or_imp]
  split
  ·rename_i h;simp[h,ih]
  ·rename_i h;simp[h]
theorem zfd {α:Type} {p:α->Bool} {l:List α} {b:α} (h:b∈l) (hb:p b=false):b∈l.dropWhile p:=by
 induction l with
 | nil=>cases h
 | cons c l ih=>
  rw[List.dropWhile_cons]
  split
  ·rename_i hc
   rcases List.mem_cons.1 h with rfl | h
   ·rw[hb] at hc;cases hc
   ·exact ih h
  ·exact h
theorem trimS_nil (l cs:List UInt8):Lib.trimS l cs=[]↔∀b∈l,cs.contains b=true:=by
 unfold Lib.trimS Lib.trimLeftS Lib.trimRightS
 rw[zfy]
 constructor
 ·intro h b hb
  cases hc:cs.contains b with
  | true=>rfl
  | false=>
   have h1:b∈l.reverse.dropWhile (cs.contains ·):=zfd (by simpa using hb) hc
   have:=h b (by simpa using h1)
   rw[hc] at this;exact this
 ·intro h b hb
  have h1:b∈l.reverse.dropWhile (cs.contains ·):=by simpa using hb
  have:b∈l.reverse:=(List.dropWhile_sublist _).mem h1
  exact h b (by simpa using this)
theorem digitVal_some {b:UInt8} (h:isDigit b=true):Lib.digitVal b=some (b.toNat-48):=by
 simp only[isDigit,Bool.and_eq_true,decide_eq_true_eq] at h
 unfold Lib.digitVal;rw[if_pos h]
theorem zft {b:UInt8} (h:isDigit b=false):Lib.digitVal b=none:=by
 unfold Lib.digitVal
 rw[if_neg]
 intro hc
 simp[isDigit,hc] at h
theorem zbq:∀(l:List UInt8) (acc:Nat),(∀b∈l,isDigit b=true)->∃m,Lib.decFrom acc l=some m
 | [],acc,_=>⟨acc,rfl⟩
 | c::l,acc,h=>by
  simp only[Lib.decFrom,digitVal_some (h c (by simp))]
  exact zbq l _ (fun b hb=>h b (by simp[hb]))
theorem zbK:∀(l:List UInt8) (acc:Nat),(∃b∈l,isDigit b=false)->Lib.decFrom acc l=none
 | [],acc,h=>by obtain ⟨b,hb,_⟩:=h;cases hb
 | c::l,acc,h=>by
  obtain ⟨b,hb,hd⟩:=h
  simp only[Lib.decFrom]
  cases hc:isDigit c with
  | false=>rw[zft hc]
  | true=>
   rw[digitVal_some hc]
   refine zbK l _ ⟨b,?_,hd⟩
   rcases List.mem_cons.1 hb with rfl | hb
   ·rw[hc] at hd;cases hd
   ·exact hb
theorem nat?_cases (l:List UInt8):(nat? l=none∧(l.length=0∨10<l.length∨(l.length<=10∧Lib.trimS l digs≠[]))) ∨
  (∃m:Nat,nat? l=some m∧l.length≠0∧l.length<=10∧Lib.trimS l digs=[]∧Lib.atoi l=some (m:Int)∧m<10000000000):=by
 by_cases h0:l.length=0
 ·left
  refine ⟨?_,.inl h0⟩
  have:l=[]:=List.length_eq_zero_iff.1 h0
  subst this;rfl
 by_cases h1:10<l.length
 ·left
  exact ⟨by unfold nat?;rw[if_neg (by omega)],.inr (.inl h1)⟩
 by_cases h2:Lib.trimS l digs=[]
 ·right
  have hd:∀b∈l,isDigit b=true:=fun b hb=>by rw[<-zhK];exact (trimS_nil _ _).1 h2 b hb
  obtain ⟨m,hm⟩:=zbq l 0 hd
  have hn:Lib.decNat l=some m:=by
   unfold Lib.decNat
   rw[if_neg (by simpa using fun e:l=[]=>h0 (by rw[e];rfl)),hm]
  refine ⟨m,by unfold nat?;rw[if_pos (by omega),hn],h0,by omega,h2,?_,?_⟩
  ·match l,h0 with
   | c::r,_=>
    have hc:=hd c (by simp)
    simp only[isDigit,Bool.and_eq_true,decide_eq_true_eq] at hc
    simp only[Lib.atoi]
    rw[if_neg (by simp only[beq_iff_eq];rintro rfl;simp at hc),if_neg (by simp only[beq_iff_eq];rintro rfl;simp at hc),hn]
    rfl
  ·have:=Lib.decFrom_lt l 0 m hm
   have hp:10 ^ l.length<=10 ^ 10:=Nat.pow_le_pow_right (by omega) (by omega)
   omega
 ·left
  refine ⟨?_,.inr (.inr ⟨by omega,h2⟩)⟩
  have:∃b∈l,isDigit b=false:=by
   apply Decidable.byContradiction
   intro hc
   apply h2
   rw[trimS_nil]
   intro b hb
   rw[zhK]
   cases hd:isDigit b with
   | true=>rfl
   | false=>exact absurd ⟨b,hb,hd⟩ hc
  unfold nat?
  split
  ·unfold Lib.decNat
   split
   ·rfl
   ·exact zbK l 0 this
  ·rfl
end Num
theorem zjP (s:ByteArray) (T:List UInt8) (hs:s.size<=9223372036854775807) (hT:Lib.trimS s.data.toList Num.digs=T) (w:World) :
  Calls prog 102 #[.string s,.string ⟨#[48,49,50,51,52,53,54,55,56,57]⟩] w fun e w'=>e=.returned (.string ⟨T.toArray⟩)∧Below w.heap.size w w':=by
 have:=zhE s ⟨#[48,49,50,51,52,53,54,55,56,57]⟩ hs (by decide) (by decide) w
 rw[show (⟨#[48,49,50,51,52,53,54,55,56,57]⟩:ByteArray).data.toList=Num.digs from rfl,hT] at this
 exact this
theorem zht (s:ByteArray) (hs:s.size<=9223372036854775807) (w:World) :
  Calls prog 138 #[.string s] w fun e w'=>e=.returned (.tuple #[.int .i64 (((Num.nat? s.data.toList).getD 0:Nat):Int),.bool (Num.nat? s.data.toList).isSome])∧Below w.heap.size w w':=by
 have hl:s.data.toList.length=s.size:=rfl
 rcases Num.nat?_cases s.data.toList with ⟨hn,h⟩ | ⟨m,hn,h0,h1,h2,h3,h4⟩
 ·have HN:=zh hn
  rw[hl] at h
  clear hl hn
  rcases h with h | h | ⟨h,ht⟩
  ·go_enter func138,ntmps138
   go_wp2
   go_ret2
   exact ⟨by rw[HN.out];rfl,Below.self _⟩
  ·have hz:((s.size:Int)==0)=false:=by simp;rintro rfl;simp at h
   have hne:¬s=ByteArray.empty:=by rintro rfl;simp at h
   go_enter func138,ntmps138
   go_wp2
   go_ret2
   exact ⟨by rw[HN.out];rfl,Below.self _⟩
  ·by_cases h0:s.size=0
   ·go_enter func138,ntmps138
    go_wp2
    go_ret2
    exact ⟨by rw[HN.out];rfl,Below.self _⟩
   have hne:¬s=ByteArray.empty:=by rintro rfl;simp at h0
   have hz:((s.size:Int)==0)=false:=by simpa using hne
   obtain ⟨T,hT⟩:∃T,Lib.trimS s.data.toList Num.digs=T:=⟨_,rfl⟩
   rw[hT] at ht
   have HT:=zh hT
   clear hT
   have he:T.isEmpty=false:=by simpa using ht
   go_enter func138,ntmps138
   go_wp2_with (first | (go_at_call 102;refine (zjP s T hs HT.out _).mono ?_;rintro e' w1 ⟨rfl,hb⟩))
   go_ret2
   exact ⟨by rw[HN.out];rfl,hb⟩
 ·have HN:=zh hn
  have H2:=zh h2
  have H3:=zh h3
  rw[hl] at h0 h1
  have hne:¬s=ByteArray.empty:=by rintro rfl;simp at h0
  have hz:((s.size:Int)==0)=false:=by simpa using hne
  clear hl hn h2 h3
  go_enter func138,ntmps138
  go_wp2_with (first | (go_at_call 102;refine (zjP s [] hs H2.out _).mono ?_;rintro e' w1 ⟨rfl,hb⟩) | (go_at_call 160;refine (zkq s m (by omega) H3.out _).mono ?_;rintro e' w2 ⟨rfl,hb2⟩))
  go_quiet (fail)
  go_wp2
  go_ret2
  exact ⟨by rw[HN.out];rfl,Below.drewN (Below.next hb hb2) _⟩
end
section
open Go.RowKit
namespace Num
theorem indexByte_slash (l:List UInt8):(Lib.indexByte l 47 = -1∧l.takeWhile noSlash=l∧l.dropWhile noSlash=[]) ∨
  (∃i:Nat,Lib.indexByte l 47=i∧i<l.length∧l.takeWhile noSlash=l.take i∧l.dropWhile noSlash=47::l.drop (i+1)):=by
 induction l with
 | nil=>left;exact ⟨rfl,rfl,rfl⟩
 | cons b l ih=>
  by_cases hb:b=47
  ·subst hb
   right
   exact ⟨0,by simp[Lib.indexByte],by simp,by simp[noSlash],by simp[noSlash]⟩
  ·have hn:noSlash b=true:=by simpa[noSlash] using hb
   have hb0:(b==47)=false:=by simpa using hb
   rcases ih with ⟨h1,h2,h3⟩ | ⟨i,h1,h2,h3,h4⟩
   ·left
    refine ⟨by simp[Lib.indexByte,hb0,h1],by simp[hn,h2],by simp[hn,h3]⟩
   ·right
    refine ⟨i+1,?_,by simp;omega,by simp[hn,h3],by simp[hn,h4]⟩
    have hne:((i:Int) == -1)=false:=by simp
    simp only[Lib.indexByte,hb0,h1,hne]
    simp
end Num
theorem zbl (s:ByteArray) (a b:Nat):s.extract a b=⟨((s.data.toList.take b).drop a).toArray⟩:=by
 apply ByteArray.ext
 rw[ByteArray.data_extract]
 apply Array.ext'
 simp[Array.toList_extract,List.extract_eq_take_drop,List.drop_take]
theorem zkW (s:ByteArray):(⟨s.data.toList.toArray⟩:ByteArray)=s:=by
 obtain ⟨⟨l⟩⟩:=s;rfl
theorem zkh {a b a' b':ByteArray} {c c':Bool} (h1:a=a') (h2:b=b') (h3:c=c'):Ending.returned (.tuple #[.string a,.string b,.bool c])=.returned (.tuple #[.string a',.string b',.bool c']):=by
 rw[h1,h2,h3]
theorem zgO (s:ByteArray) (hs:s.size<=9223372036854775807) (w:World) :
  Calls prog 159 #[.string s,.string ⟨#[47]⟩] w fun e w'=>e=.returned (.tuple #[.string ⟨(s.data.toList.takeWhile Num.noSlash).toArray⟩,.string ⟨((s.data.toList.dropWhile Num.noSlash).tail).toArray⟩,.bool (!(s.data.toList.dropWhile Num.noSlash).isEmpty)])∧Below w.heap.size w w':=by
 have hl:s.data.toList.length=s.size:=rfl
 have hI:=stringslite_Index_one s 47
 rcases Num.indexByte_slash s.data.toList with ⟨h1,h2,h3⟩ | ⟨i,h1,h2,h3,h4⟩
 ·rw[h1] at hI
  have HI:=zh hI
  rw[h2,h3]
  clear hI h1 h2 h3
  go_enter func159,ntmps159
  go_wp2_with (first | (go_at_call 105;refine (HI.out _).mono ?_;rintro e' w1 ⟨rfl,rfl⟩))
  go_ret3
  exact ⟨zkh (zkW s).symm rfl rfl,Below.self _⟩
 ·rw[h1] at hI
  have HI:=zh hI
  rw[h3,h4]
  rw[hl] at h2
  clear hI h1 h3 h4
  go_enter func159,ntmps159
  go_wp2_with (first | (go_at_call 105;refine (HI.out _).mono ?_;rintro e' w1 ⟨rfl,rfl⟩))
  go_quiet (fail)
  go_wp2
  go_ret3
  exact ⟨zkh (by rw[zbl];simp) (by rw[zbl,<-hl,List.take_length];rfl) rfl,Below.selfN _ _⟩
theorem zlw (s:ByteArray) (hs:s.size<=9223372036854775807) (w:World) :
  Calls prog 137 #[.string s,.string ⟨#[47]⟩] w fun e w'=>e=.returned (.tuple #[.string ⟨(s.data.toList.takeWhile Num.noSlash).toArray⟩,.string ⟨((s.data.toList.dropWhile Num.noSlash).tail).toArray⟩,.bool (!(s.data.toList.dropWhile Num.noSlash).isEmpty)])∧Below w.heap.size w w':=by
 obtain ⟨A,hA⟩:∃A,s.data.toList.takeWhile Num.noSlash=A:=⟨_,rfl⟩
 obtain ⟨B,hB⟩:∃B,(s.data.toList.dropWhile Num.noSlash).tail=B:=⟨_,rfl⟩
 obtain ⟨c,hc⟩:∃c,(!(s.data.toList.dropWhile Num.noSlash).isEmpty)=c:=⟨_,rfl⟩
 have hI:=zgO s hs w
 rw[hA,hB,hc] at hI ⊢
 have HI:=zh hI
 clear hI hA hB hc
 go_enter func137,ntmps137
 go_wp2_with (first | (go_at_call 159;refine HI.out.mono ?_;rintro e' w1 ⟨rfl,hb⟩))
 go_ret3
 exact ⟨rfl,hb⟩
theorem zdi (l A B:List UInt8) (c:Bool) (hA:l.takeWhile Num.noSlash=A) (hB:(l.dropWhile Num.noSlash).tail=B) (hc:(!(l.dropWhile Num.noSlash).isEmpty)=c) (hs:l.length<=9223372036854775807) (w:World) :
  Calls prog 137 #[.string ⟨l.toArray⟩,.string ⟨#[47]⟩] w fun e w'=>e=.returned (.tuple #[.string ⟨A.toArray⟩,.string ⟨B.toArray⟩,.bool c])∧Below w.heap.size w w':=by
 have:=zlw ⟨l.toArray⟩ (by simpa[ByteArray.size] using hs) w
 simp only[hA,hB,hc] at this
 exact this
theorem zaJ (l:List UInt8) (o:Option Nat) (ho:Num.nat? l=o) (hs:l.length<=9223372036854775807) (w:World) :
  Calls prog 138 #[.string ⟨l.toArray⟩] w fun e w'=>e=.returned (.tuple #[.int .i64 ((o.getD 0:Nat):Int),.bool o.isSome])∧Below w.heap.size w w':=by
 have:=zht ⟨l.toArray⟩ (by simpa[ByteArray.size] using hs) w
 simp only[ho] at this
 exact this
theorem za2 (s:ByteArray) (l:List UInt8) (neg:Bool) (h1:Lib.trimPrefix s.data.toList [45]=l) (h2:Lib.hasPrefix s.data.toList [45]=neg) (w:World) :
  Calls prog 136 #[.string s,.string ⟨#[45]⟩] w fun e w'=>e=.returned (.tuple #[.string ⟨l.toArray⟩,.bool neg])∧Below w.heap.size w w':=by
 refine (strings_CutPrefix s ⟨#[45]⟩ w).mono ?_
 rintro e w' ⟨rfl,rfl⟩
 rw[show (⟨#[45]⟩:ByteArray).data.toList=[45] from rfl,h1,h2]
 exact ⟨rfl,Below.self _⟩
namespace Num
theorem nat?_lt {l:List UInt8} {m:Nat} (h:nat? l=some m):m<10000000000:=by
 rcases nat?_cases l with ⟨h1,_⟩ | ⟨k,h1,_,_,_,_,h2⟩
 ·rw[h1] at h;cases h
 ·rw[h1] at h;cases h;exact h2
theorem parse_cases (l:List UInt8):∃(neg:Bool) (r:List UInt8),Lib.trimPrefix l [45]=r∧Lib.hasPrefix l [45]=neg∧parse l=parseU neg r∧r.length<=l.length:=by
 cases l with
 | nil=>exact ⟨false,[],rfl,rfl,rfl,qzL⟩
 | cons b r=>
  by_cases hb:b=45
  ·subst hb
   exact ⟨true,r,by simp[Lib.trimPrefix,Lib.hasPrefix],by simp[Lib.hasPrefix],rfl,by simp⟩
  ·have hb0:((45:UInt8)==b)=false:=by simpa using fun h:(45:UInt8)=b=>hb h.symm
   have hp:Lib.hasPrefix (b::r) [45]=false:=by
    unfold Lib.hasPrefix
    simp only[List.isPrefixOf,hb0,Bool.false_and]
   refine ⟨false,b::r,by unfold Lib.trimPrefix;rw[hp];rfl,hp,?_,qzL⟩
   unfold parse
   split
   ·rename_i h;simp only[List.cons.injEq] at h;exact absurd h.1 hb
   ·rfl
theorem parseU_cases (neg:Bool) (r:List UInt8):∃(A B C:List UInt8) (c:Bool) (oA oC:Option Nat),r.takeWhile noSlash=A∧(r.dropWhile noSlash).tail=B∧(!(r.dropWhile noSlash).isEmpty)=c ∧
  C=(if c=true then B else [49])∧nat? A=oA∧nat? C=oC∧A.length<=r.length∧C.length<=r.length+1 ∧
  parseU neg r=(match oA,oC with
   | some n,some d=>((mk (if neg then -(n:Int) else n) d).1,(mk (if neg then -(n:Int) else n) d).2.1,decide ((mk (if neg then -(n:Int) else n) d).2.2=0))
   | _,_=>(0,0,false)):=by
 refine ⟨_,_,_,_,_,_,rfl,rfl,rfl,rfl,rfl,rfl,(List.takeWhile_sublist _).length_le,?_,?_⟩
 ·split
  ·have:=(List.dropWhile_sublist noSlash (l:=r)).length_le
   simp only[List.length_tail];omega
  ·simp
 ·unfold parseU lower
  cases r.dropWhile noSlash<;>rfl
end Num
theorem zbt {a b:Int} {p q:Bool} {P:Int × Int × Bool} (h:P=(a,b,q)) (h':p=q):Ending.returned (.tuple #[.int .i64 a,.int .i64 b,.bool p])=.returned (.tuple #[.int .i64 P.1,.int .i64 P.2.1,.bool P.2.2]):=by
 rw[h,h']
theorem zi4 (s:ByteArray) (hs:s.size<=9223372036854775806) (w:World) :
  Calls prog 104 #[.string s] w fun e w'=>e=.returned (.tuple #[.int .i64 (Num.parse s.data.toList).1,.int .i64 (Num.parse s.data.toList).2.1,.bool (Num.parse s.data.toList).2.2])∧Below w.heap.size w w':=by
 have hl:s.data.toList.length=s.size:=rfl
 obtain ⟨neg,r,h1,h2,h3,h4⟩:=Num.parse_cases s.data.toList
 obtain ⟨A,B,C,c,oA,oC,k1,k2,k3,k4,k5,k6,k7,k8,k9⟩:=Num.parseU_cases neg r
 rw[hl] at h4
 rw[k9] at h3
 have H1:=zh h1
 have H2:=zh h2
 have K1:=zh k1
 have K2:=zh k2
 have K3:=zh k3
 have K5:=zh k5
 have K6:=zh k6
 have HP:=zh h3
 clear hl h1 h2 h3 k9 k1 k2 k3
 have e0:s.size<=9223372036854775807:=by omega
 cases oA with
 | none=>
  cases c
  ·simp only[Bool.false_eq_true,if_false] at k4
   first | (have k4:=k4.symm;subst k4;have _u:=B) | subst k4
   go_enter func104,ntmps104
   go_wp2_with (first | (go_at_call 136;refine (za2 s r _ H1.out H2.out _).mono ?_;rintro e' w1 ⟨rfl,hb⟩) | (go_at_call 137;refine (zdi r A B _ K1.out K2.out K3.out (by omega) _).mono ?_;rintro e' w2 ⟨rfl,hb'⟩;have hb2:=Below.next hb hb';clear hb') | (go_at_call 138;((with_reducible refine (zaJ A _ K5.out (by omega) _).mono ?_);rintro e' w3 ⟨rfl,hb'⟩;have hb3:=Below.next hb2 hb';clear hb')) | (go_at_call 138;((with_reducible refine (zaJ [49] _ K6.out (by first | omega | (simp only[qzN,qzO];omega)) _).mono ?_);rintro e' w4 ⟨rfl,hb'⟩;have hb4:=Below.next hb3 hb';clear hb')))
   all_goals go_ret3
   all_goals exact ⟨zbt HP.out rfl,by assumption⟩
  ·simp only[if_true] at k4
   first | (have k4:=k4.symm;subst k4;have _u:=B) | subst k4
   go_enter func104,ntmps104
   go_wp2_with (first | (go_at_call 136;refine (za2 s r _ H1.out H2.out _).mono ?_;rintro e' w1 ⟨rfl,hb⟩) | (go_at_call 137;refine (zdi r A B _ K1.out K2.out K3.out (by omega) _).mono ?_;rintro e' w2 ⟨rfl,hb'⟩;have hb2:=Below.next hb hb';clear hb') | (go_at_call 138;((with_reducible refine (zaJ A _ K5.out (by omega) _).mono ?_);rintro e' w3 ⟨rfl,hb'⟩;have hb3:=Below.next hb2 hb';clear hb')) | (go_at_call 138;((with_reducible refine (zaJ B _ K6.out (by first | omega | (simp only[qzN,qzO];omega)) _).mono ?_);rintro e' w4 ⟨rfl,hb'⟩;have hb4:=Below.next hb3 hb';clear hb')))
   all_goals go_ret3
   all_goals exact ⟨zbt HP.out rfl,by assumption⟩
 | some n=>
  have hn:=Num.nat?_lt k5
  cases oC with
  | none=>
   cases c
   ·simp only[Bool.false_eq_true,if_false] at k4
    first | (have k4:=k4.symm;subst k4;have _u:=B) | subst k4
    go_enter func104,ntmps104
    go_wp2_with (first | (go_at_call 136;refine (za2 s r _ H1.out H2.out _).mono ?_;rintro e' w1 ⟨rfl,hb⟩) | (go_at_call 137;refine (zdi r A B _ K1.out K2.out K3.out (by omega) _).mono ?_;rintro e' w2 ⟨rfl,hb'⟩;have hb2:=Below.next hb hb';clear hb') | (go_at_call 138;((with_reducible refine (zaJ A _ K5.out (by omega) _).mono ?_);rintro e' w3 ⟨rfl,hb'⟩;have hb3:=Below.next hb2 hb';clear hb')) | (go_at_call 138;((with_reducible refine (zaJ [49] _ K6.out (by first | omega | (simp only[qzN,qzO];omega)) _).mono ?_);rintro e' w4 ⟨rfl,hb'⟩;have hb4:=Below.next hb3 hb';clear hb')))
    all_goals go_ret3
    all_goals exact ⟨zbt HP.out rfl,by assumption⟩
   ·simp only[if_true] at k4
    first | (have k4:=k4.symm;subst k4;have _u:=B) | subst k4
    go_enter func104,ntmps104
    go_wp2_with (first | (go_at_call 136;refine (za2 s r _ H1.out H2.out _).mono ?_;rintro e' w1 ⟨rfl,hb⟩) | (go_at_call 137;refine (zdi r A B _ K1.out K2.out K3.out (by omega) _).mono ?_;rintro e' w2 ⟨rfl,hb'⟩;have hb2:=Below.next hb hb';clear hb') | (go_at_call 138;((with_reducible refine (zaJ A _ K5.out (by omega) _).mono ?_);rintro e' w3 ⟨rfl,hb'⟩;have hb3:=Below.next hb2 hb';clear hb')) | (go_at_call 138;((with_reducible refine (zaJ B _ K6.out (by first | omega | (simp only[qzN,qzO];omega)) _).mono ?_);rintro e' w4 ⟨rfl,hb'⟩;have hb4:=Below.next hb3 hb';clear hb')))
    all_goals go_ret3
    all_goals exact ⟨zbt HP.out rfl,by assumption⟩
  | some d=>
   have hd:=Num.nat?_lt k6
   cases neg with
   | true=>
    obtain ⟨x,y,z,hm⟩:∃x y z,Num.mk (-(n:Int)) d=(x,y,z):=⟨_,_,_,rfl⟩
    have HM:=zh hm
    have HF:=zh (show Num.parse s.data.toList=(x,y,decide (z=0)) by rw[HP.out];simp[hm])
    clear hm
    cases c
    ·simp only[Bool.false_eq_true,if_false] at k4
     first | (have k4:=k4.symm;subst k4;have _u:=B) | subst k4
     go_enter func104,ntmps104
     go_wp2_with (first | (go_at_call 136;refine (za2 s r _ H1.out H2.out _).mono ?_;rintro e' w1 ⟨rfl,hb⟩) | (go_at_call 137;refine (zdi r A B _ K1.out K2.out K3.out (by omega) _).mono ?_;rintro e' w2 ⟨rfl,hb'⟩;have hb2:=Below.next hb hb';clear hb') | (go_at_call 138;((with_reducible refine (zaJ A _ K5.out (by omega) _).mono ?_);rintro e' w3 ⟨rfl,hb'⟩;have hb3:=Below.next hb2 hb';clear hb')) | (go_at_call 138;((with_reducible refine (zaJ [49] _ K6.out (by first | omega | (simp only[qzN,qzO];omega)) _).mono ?_);rintro e' w4 ⟨rfl,hb'⟩;have hb4:=Below.next hb3 hb';clear hb')) | (go_at_call 139;refine (zfk (-(n:Int)) d x y z HM.out (by omega) (by omega) (by omega) (by omega) _).mono ?_;rintro e' w5 ⟨rfl,k,rfl⟩))
     go_ret3
     exact ⟨zbt HF.out (by first | rfl | simp),Below.drewN hb4 _⟩
    ·simp only[if_true] at k4
     first | (have k4:=k4.symm;subst k4;have _u:=B) | subst k4
     go_enter func104,ntmps104
     go_wp2_with (first | (go_at_call 136;refine (za2 s r _ H1.out H2.out _).mono ?_;rintro e' w1 ⟨rfl,hb⟩) | (go_at_call 137;refine (zdi r A B _ K1.out K2.out K3.out (by omega) _).mono ?_;rintro e' w2 ⟨rfl,hb'⟩;have hb2:=Below.next hb hb';clear hb') | (go_at_call 138;((with_reducible refine (zaJ A _ K5.out (by omega) _).mono ?_);rintro e' w3 ⟨rfl,hb'⟩;have hb3:=Below.next hb2 hb';clear hb')) | (go_at_call 138;((with_reducible refine (zaJ B _ K6.out (by first | omega | (simp only[qzN,qzO];omega)) _).mono ?_);rintro e' w4 ⟨rfl,hb'⟩;have hb4:=Below.next hb3 hb';clear hb')) | (go_at_call 139;refine (zfk (-(n:Int)) d x y z HM.out (by omega) (by omega) (by omega) (by omega) _).mono ?_;rintro e' w5 ⟨rfl,k,rfl⟩))
     go_ret3
     exact ⟨zbt HF.out (by first | rfl | simp),Below.drewN hb4 _⟩
   | false=>
    obtain ⟨x,y,z,hm⟩:∃x y z,Num.mk (n:Int) d=(x,y,z):=⟨_,_,_,rfl⟩
    have HM:=zh hm
    have HF:=zh (show Num.parse s.data.toList=(x,y,decide (z=0)) by rw[HP.out];simp[hm])
    clear hm
    cases c
    ·simp only[Bool.false_eq_true,if_false] at k4
     first | (have k4:=k4.symm;subst k4;have _u:=B) | subst k4
     go_enter func104,ntmps104
     go_wp2_with (first | (go_at_call 136;refine (za2 s r _ H1.out H2.out _).mono ?_;rintro e' w1 ⟨rfl,hb⟩) | (go_at_call 137;refine (zdi r A B _ K1.out K2.out K3.out (by omega) _).mono ?_;rintro e' w2 ⟨rfl,hb'⟩;have hb2:=Below.next hb hb';clear hb') | (go_at_call 138;((with_reducible refine (zaJ A _ K5.out (by omega) _).mono ?_);rintro e' w3 ⟨rfl,hb'⟩;have hb3:=Below.next hb2 hb';clear hb')) | (go_at_call 138;((with_reducible refine (zaJ [49] _ K6.out (by first | omega | (simp only[qzN,qzO];omega)) _).mono ?_);rintro e' w4 ⟨rfl,hb'⟩;have hb4:=Below.next hb3 hb';clear hb')) | (go_at_call 139;refine (zfk (n:Int) d x y z HM.out (by omega) (by omega) (by omega) (by omega) _).mono ?_;rintro e' w5 ⟨rfl,k,rfl⟩))
     go_ret3
     exact ⟨zbt HF.out (by first | rfl | simp),Below.drewN hb4 _⟩
    ·simp only[if_true] at k4
     first | (have k4:=k4.symm;subst k4;have _u:=B) | subst k4
     go_enter func104,ntmps104
     go_wp2_with (first | (go_at_call 136;refine (za2 s r _ H1.out H2.out _).mono ?_;rintro e' w1 ⟨rfl,hb⟩) | (go_at_call 137;refine (zdi r A B _ K1.out K2.out K3.out (by omega) _).mono ?_;rintro e' w2 ⟨rfl,hb'⟩;have hb2:=Below.next hb hb';clear hb') | (go_at_call 138;((with_reducible refine (zaJ A _ K5.out (by omega) _).mono ?_);rintro e' w3 ⟨rfl,hb'⟩;have hb3:=Below.next hb2 hb';clear hb')) | (go_at_call 138;((with_reducible refine (zaJ B _ K6.out (by first | omega | (simp only[qzN,qzO];omega)) _).mono ?_);rintro e' w4 ⟨rfl,hb'⟩;have hb4:=Below.next hb3 hb';clear hb')) | (go_at_call 139;refine (zfk (n:Int) d x y z HM.out (by omega) (by omega) (by omega) (by omega) _).mono ?_;rintro e' w5 ⟨rfl,k,rfl⟩))
     go_ret3
     exact ⟨zbt HF.out (by first | rfl | simp),Below.drewN hb4 _⟩
end
section
namespace Dat
mutual
def marked:Dat->Bool
 | mk k _ _ s l=>(decide (k=2)&&s.data.toList.contains 37) || markedL l
def markedL:List Dat->Bool
 | []=>false
 | x::l=>marked x || markedL l
end
end Dat
namespace Rd
open Go Dat
end Rd
end
section
open Go
section
variable {P : Program} {ops : Array Oper} {md : Region.Mode} {C : World -> Prop}
def headAny (P:Program) (md:Region.Mode) (ops:Array Oper) (C:World->Prop) (n:Nat) (L:Array Bool->Act->Prop):Nat->Array Bool->Act->Prop
 | 0,listed,a=>L listed a
 | f+1,listed,a=>Region.ready md ops listed≠[]∧∀i∈Region.ready md ops listed,i<n∧qOp P ops C i (headAny P md ops C n L f (listed.setIfInBounds i true)) a
theorem zd3 {n g:Nat} {L:Array Bool->Act->Prop} {Q':Exit->Act->World->Prop} (hL:∀listed a w,C w->L listed a->wpAny P md ops Q' g listed a w) :
  ∀(f:Nat) (listed:Array Bool) (a:Act) (w:World),C w->headAny P md ops C n L f listed a->wpAny P md ops Q' (f+g) listed a w
 | 0,listed,a,w,hC,h=>by rw[Nat.zero_add];exact hL _ _ _ hC h
 | f+1,listed,a,w,hC,h=>by
  rw[show f+1+g=(f+g)+1 by omega]
  exact ⟨fun h0=>absurd h0 h.1,fun i hi=>wpOp_of_qOp hC (fun a' w' hC' h'=>zd3 hL f _ a' w' hC' h') (h.2 i hi).2⟩
theorem zh2 {n i:Nat} {oi:Oper} {v:Value} {L:Array Bool->Act->Prop} (hi:ops[i]?=some oi) (hsel:∀(j:Nat) (o:Oper) cs b,ops[j]?=some o->o.op≠.select cs b)
  (hs:Region.sinkB md ops n=true) (hc:Region.chainB md ops n=true) (hn:n<ops.size) (hin:i<n) (hdone:∀listed a,L listed a->∀j∈Region.ready md ops listed,n<=j) :
  ∀(f:Nat) (listed:Array Bool) (a:Act),HeadInv md ops n listed ->
   (∀j oj,ops[j]?=some oj->j≠i->listed.getD j true=false->(∀e∈oj.after,Region.binds md e=true->e.on≠i)->oi.apart ops oj=true) ->
   i∈Region.ready md ops listed->YieldsIn P ops C oi v a ->
   headAny P md ops C n L f (listed.setIfInBounds i true) (a.put oi.dst v)->headAny P md ops C n L (f+1) listed a:=by
 intro f
 induction f with
 | zero=>
  intro listed a inv _ hr hy H
  have hun:=(mem_ready.1 hr).1
  refine ⟨fun h=>(by rw[h] at hr;cases hr),fun j hj=>?_⟩
  have hjn:j<n:=by
   rcases Nat.lt_or_ge j n with h | h
   ·exact h
   ·exact absurd hj (tail_waits hs hc hn inv _ i rfl hin hun j h)
  refine ⟨hjn,?_⟩
  by_cases hji:j=i
  ·subst hji;exact hy.qOp hi H
  ·have:=hdone _ _ H j (ready_mono hj hji)
   omega
 | succ f ih=>
  intro listed a inv hfree hr hy H
  have hun:=(mem_ready.1 hr).1
  refine ⟨fun h=>(by rw[h] at hr;cases hr),fun j hj=>?_⟩
  have hjn:j<n:=by
   rcases Nat.lt_or_ge j n with h | h
   ·exact h
   ·exact absurd hj (tail_waits hs hc hn inv _ i rfl hin hun j h)
  refine ⟨hjn,?_⟩
  by_cases hji:j=i
  ·subst hji;exact hy.qOp hi H
  ·have h1:=(H.2 j (ready_mono hj hji)).2
   obtain ⟨hjun,oj,hoj,hall⟩:=mem_ready.1 hj
   have hnot:∀e∈oj.after,Region.binds md e=true->e.on≠i:=fun e he hb heq=>by
    have h1:=hall e he hb
    rw[heq,getD_both hun] at h1
    cases h1
   have h2:=qOp_put hoj (hfree j oj hoj hji hjun hnot) (fun cs b=>hsel i oi cs b hi) (fun cs b=>hsel j oj cs b hoj) hy h1
   have hfree':∀k ok,ops[k]?=some ok->k≠i->(listed.setIfInBounds j true).getD k true=false->(∀e∈ok.after,Region.binds md e=true->e.on≠i)->oi.apart ops ok=true:=fun k ok hk hki hunk hno=>by
    refine hfree k ok hk hki ?_ hno
    by_cases hjk:j=k
    ·subst hjk;exact hjun
    ·rw[getD_set_ne true hjk] at hunk;exact hunk
   refine qOp_mono (fun a' h3=>ih (listed.setIfInBounds j true) a' (inv.set hj hjn) hfree' (ready_mono hr (Ne.symm hji)) h3.1 ?_) h2
   rw[Array.setIfInBounds_comm _ _ hji]
   exact h3.2
theorem zhW {n g:Nat} {Lq:Act->Prop} (hsel:Region.noSelect ops=true) (hs:Region.sinkB md ops n=true) (hc:Region.chainB md ops n=true) (hn:n<ops.size) :
  ∀(l:List Oper) (k:Nat) (listed:Array Bool) (a:Act),(∀j,j<l.length->l[j]?=ops[k+j]?)->k+l.length=n->HeadInv md ops n listed ->
  Region.lexHead md ops g l.length k listed=true->wpQuiet P ops C Lq l a ->
  headAny P md ops C n (fun listed' a'=>Region.seqB md ops g n listed'=true∧Lq a') l.length listed a
 | [],k,listed,a,_,hk,_,hB,h=>by
  have:k=n:=by simpa using hk
  subst this
  exact ⟨by simpa[Region.lexHead] using hB,h⟩
 | o::l,k,listed,a,hl,hk,inv,hB,h=>by
  have h0:ops[k]?=some o:=by simpa using (hl 0 (by simp)).symm
  simp only[qzN,Region.lexHead,Bool.and_eq_true] at hB
  obtain ⟨⟨hr,hf⟩,hB'⟩:=hB
  have hkn:k<n:=by simp only[qzN] at hk;omega
  have hr':k∈Region.ready md ops listed:=by simpa using hr
  have hst:qOp P ops C k (wpQuiet P ops C Lq l) a:=by unfold qOp;simp only[h0];exact h
  obtain ⟨v,hy,hK⟩:=yieldsIn_of_qOp h0 hst
  exact zh2 h0 (Region.noSelect_spec hsel) hs hc hn hkn (fun listed' a' hL=>seqB_ready hL.1) l.length listed a inv (Region.free_spec h0 hf) hr' hy
   (zhW hsel hs hc hn l (k+1) _ _ (fun j hj=>by have:=hl (j+1) (by simp;omega);simpa[Nat.add_assoc,Nat.add_comm 1 j] using this) (by simp only[qzN] at hk;omega) (inv.set hr' hkn) hB' hK)
theorem zcr {id:Nat} {Q:Exit->Act->World->Prop} {a:Act} {w:World} {l:List Oper} (C:World->Prop) (n:Nat) (hm:P.follows .mixedOrders=true) (hB:Region.lexTailB .any l.toArray n=true) (hC:C w.drew)
  (h:wpQuiet P l.toArray C (fun a'=>∀w',C w'->wpList P l.toArray Q (l.drop n) a' w') (l.take n) a):(Code.region id l.toArray true).wp P Q a w:=by
 simp only[Region.lexTailB,Bool.and_eq_true,decide_eq_true_eq] at hB
 obtain ⟨⟨⟨⟨hsel,hn⟩,hs⟩,hc⟩,hlex⟩:=hB
 have hn':n<l.length:=by simpa using hn
 have htl:(l.take n).length=n:=by simp;omega
 have hdl:(l.drop n).length=l.toArray.size-n:=by simp
 have inv0:HeadInv .any l.toArray n (Array.replicate l.toArray.size false):=
  ⟨by simp,fun j oj _ hl=>(by rw[getD_replicate_false] at hl;cases hl),fun t _ ht=>getD_in (by simpa using ht) (getD_replicate_false _ _)⟩
 have H:=zhW (md:=.any) (g:=l.toArray.size-n) hsel hs hc hn (l.take n) 0 _ a (fun j hj=>by
  have hj':j<n:=by rw[htl] at hj;exact hj
  simp[hj']) (by simpa using htl) inv0 (by rw[htl];exact hlex) h
 refine wp_region_any hm ?_
 have:=zd3 (Q':=Q) (g:=l.toArray.size-n) (fun listed a' w' hC' hL=>by
  have:=wpAny_of_seq (md:=.any) (Q':=Q) (l.drop n) n listed a' w' (fun j=>by simp[List.getElem?_drop]) (by rw[hdl];exact hL.1) (hL.2 w' hC')
  rwa[hdl] at this) _ _ _ _ hC H
 rw[htl,show n+(l.toArray.size-n)=l.toArray.size by omega] at this
 exact this
theorem zaQ {id:Nat} {Q:Exit->Act->World->Prop} {a:Act} {w:World} {l:List Oper} (C:World->Prop) (n:Nat) (hm:P.follows .mixedOrders=true) (hB:Region.lexTailB .any l.toArray n=true) (hC:C w.drew)
  (h:∀(T:Type) [Nonempty T] (W:T->World),(∀t,C (W t))->(∀w',C w'->∃t,w'=W t)->wpQuiet P l.toArray (fun w'=>∃t,w'=W t) (fun a'=>∀t,wpList P l.toArray Q (l.drop n) a' (W t)) (l.take n) a):(Code.region id l.toArray true).wp P Q a w:=by
 haveI:Nonempty { w':World // C w' }:=⟨⟨_,hC⟩⟩
 have h1:=h { w':World // C w' } (fun t=>t.1) (fun t=>t.2) (fun w' hw=>⟨⟨w',hw⟩,rfl⟩)
 have e:(fun w':World=>∃t:{ w':World // C w' },w'=t.1)=C:=by
  funext w'
  exact propext ⟨fun ⟨t,ht⟩=>ht ▸ t.2,fun hw=>⟨⟨w',hw⟩,rfl⟩⟩
 rw[e] at h1
 refine zcr C n hm hB hC ?_
 have e2:(fun a'=>∀w',C w'->wpList P l.toArray Q (l.drop n) a' w')=(fun a'=>∀t:{ w':World // C w' },wpList P l.toArray Q (l.drop n) a' t.1):=by
  funext a'
  exact propext ⟨fun h t=>h t.1 t.2,fun h w' hw=>h ⟨w',hw⟩⟩
 rw[e2]
 exact h1
end
end
section
open Go.RowKit
theorem zfC (w:World) (cs:Array Value) (t:TypeId) (B:Obj) (i:Nat) {v:Value} (h:cs[i]?=some v):((w.alloc (.cells cs t)).alloc B).cell? ⟨w.heap.size,i,none⟩=some v:=by
 rw[zbT ((Below.refl (w.alloc (.cells cs t)).heap.size (w.alloc (.cells cs t))).alloc qzL B) w.heap.size i (by simp)]
 exact zbM w cs t i h
def Two (w:World) (cs:Array Value) (t:TypeId) (ds:Array Value) (w':World):Prop:=Below (w.heap.size+2) ((w.alloc (.cells cs t)).alloc (.cells ds t)) w'
theorem Two.cell {w w':World} {cs ds:Array Value} {t:TypeId} (h:Two w cs t ds w') (i:Nat) {v:Value} (hv:cs[i]?=some v):w'.cell? ⟨w.heap.size,i,none⟩=some v:=by
 rw[Below.cell h (p:=⟨w.heap.size,i,none⟩) (by simp)]
 exact zfC w cs t _ i hv
theorem Two.next {w w' w'':World} {cs ds:Array Value} {t:TypeId} (h:Two w cs t ds w') (h':Below w'.heap.size w' w''):Two w cs t ds w'':=
 Below.trans h (h'.mono (by have:=Below.size h;simp at this;omega))
theorem Two.drew {w:World} {cs ds:Array Value} {t:TypeId}:Two w cs t ds ((w.alloc (.cells cs t)).alloc (.cells ds t)).drew:=qzB.drew
theorem Two.cell2 {w w':World} {cs ds:Array Value} {t:TypeId} (h:Two w cs t ds w') (i:Nat) {v:Value} (hv:ds[i]?=some v):w'.cell? ⟨w.heap.size+1,i,none⟩=some v:=by
 rw[Below.cell h (p:=⟨w.heap.size+1,i,none⟩) (by simp)]
 have:=zbM (w.alloc (.cells cs t)) ds t i hv
 rwa[show (w.alloc (.cells cs t)).heap.size=w.heap.size+1 by simp] at this
theorem Two.free2 {w w':World} {cs ds:Array Value} {t:TypeId} (h:Two w cs t ds w') (i:Nat):w'.frozen? ⟨w.heap.size+1,i,none⟩=false:=by
 rw[Below.frozen h (p:=⟨w.heap.size+1,i,none⟩) (by simp)]
 exact World.frozen?_alloc_at (w:=w.alloc (.cells cs t)) ds t _ i (by simp)
theorem Two.five {w w':World} {cs:Array Value} {t:TypeId} {d0 d1 d2 d3 d4:Value} (h:Two w cs t #[d0,d1,d2,d3,d4] w') :
  w'.cell? ⟨w.heap.size+1,0,none⟩=some d0∧w'.cell? ⟨w.heap.size+1,1,none⟩=some d1∧w'.cell? ⟨w.heap.size+1,2,none⟩=some d2∧w'.cell? ⟨w.heap.size+1,3,none⟩=some d3∧w'.cell? ⟨w.heap.size+1,4,none⟩=some d4 ∧
   w'.frozen? ⟨w.heap.size+1,0,none⟩=false∧w'.frozen? ⟨w.heap.size+1,1,none⟩=false∧w'.frozen? ⟨w.heap.size+1,2,none⟩=false∧w'.frozen? ⟨w.heap.size+1,3,none⟩=false∧w'.frozen? ⟨w.heap.size+1,4,none⟩=false:=
 ⟨h.cell2 0 rfl,h.cell2 1 rfl,h.cell2 2 rfl,h.cell2 3 rfl,h.cell2 4 rfl,h.free2 0,h.free2 1,h.free2 2,h.free2 3,h.free2 4⟩
theorem Two.stored {w w':World} {cs ds:Array Value} {t:TypeId} (h:Two w cs t ds w') (v0 v1 v2 v3 v4:Value) :
  Below w.heap.size w (((((w'.setCell ⟨w.heap.size+1,0,none⟩ v0).setCell ⟨w.heap.size+1,1,none⟩ v1).setCell ⟨w.heap.size+1,2,none⟩ v2).setCell ⟨w.heap.size+1,3,none⟩ v3).setCell ⟨w.heap.size+1,4,none⟩ v4):=
 ((((((((Below.refl w.heap.size w).alloc qzL _).alloc (by simp) _).trans (Below.mono h (by omega))).setCell (by simp) _).setCell (by simp) _).setCell (by simp) _).setCell (by simp) _).setCell (by simp) _
theorem zcd {w w1:World} {cs ds:Array Value} {t u:TypeId} (hb:Below ((w.alloc (.cells cs t)).alloc (.cells ds u)).heap.size ((w.alloc (.cells cs t)).alloc (.cells ds u)) w1) (i:Nat) {v:Value} (h:cs[i]?=some v):w1.cell? ⟨w.heap.size,i,none⟩=some v:=by
 rw[Below.cell hb (p:=⟨w.heap.size,i,none⟩) (by simp;omega)]
 exact zfC w cs t _ i h
theorem zjN {w w1:World} {cs ds:Array Value} {t u:TypeId} (hb:Below ((w.alloc (.cells cs t)).alloc (.cells ds u)).heap.size ((w.alloc (.cells cs t)).alloc (.cells ds u)) w1) (i:Nat) {v:Value} (h:ds[i]?=some v):w1.cell? ⟨w.heap.size+1,i,none⟩=some v:=by
 rw[Below.cell hb (p:=⟨w.heap.size+1,i,none⟩) (by simp)]
 have:=zbM (w.alloc (.cells cs t)) ds u i h
 rwa[show (w.alloc (.cells cs t)).heap.size=w.heap.size+1 by simp] at this
theorem zef {w w1:World} {A B:Obj} (hb:Below ((w.alloc A).alloc B).heap.size ((w.alloc A).alloc B) w1):Below w.heap.size w w1:=
 (((Below.refl w.heap.size w).alloc qzL A).alloc (by simp) B).trans (hb.mono (by simp;omega))
theorem zk7 {w w1:World} {A B:Obj} (hb:Below ((w.alloc A).alloc B).heap.size ((w.alloc A).alloc B) w1):w.heap.size+2<=w1.heap.size:=by
 have:=hb.size;simpa using this
theorem zcO {w w1:World} {cs:Array Value} {t:TypeId} (hb:Below (w.alloc (.cells cs t)).heap.size (w.alloc (.cells cs t)) w1) (i:Nat) {v:Value} (h:cs[i]?=some v):w1.cell? ⟨w.heap.size,i,none⟩=some v:=by
 rw[Below.cell hb (p:=⟨w.heap.size,i,none⟩) (by simp)]
 exact zbM w cs t i h
theorem zfW {w w1:World} {A:Obj} (hb:Below (w.alloc A).heap.size (w.alloc A) w1):Below w.heap.size w w1:=
 ((Below.refl w.heap.size w).alloc qzL A).trans (hb.mono (by simp))
theorem zkw {w w1:World} {A:Obj} (hb:Below (w.alloc A).heap.size (w.alloc A) w1):w.heap.size+1<=w1.heap.size:=by
 have:=hb.size;simpa using this
theorem zkt {w w1:World} {a0 a1 a2 a3 a4:Value} {t u:TypeId} {ds:Array Value} (hb:Below ((w.alloc (.cells #[a0,a1,a2,a3,a4] t)).alloc (.cells ds u)).heap.size ((w.alloc (.cells #[a0,a1,a2,a3,a4] t)).alloc (.cells ds u)) w1) :
  w1.cell? ⟨w.heap.size,0,none⟩=some a0∧w1.cell? ⟨w.heap.size,1,none⟩=some a1∧w1.cell? ⟨w.heap.size,2,none⟩=some a2∧w1.cell? ⟨w.heap.size,3,none⟩=some a3∧w1.cell? ⟨w.heap.size,4,none⟩=some a4:=
 ⟨zcd hb 0 rfl,zcd hb 1 rfl,zcd hb 2 rfl,zcd hb 3 rfl,zcd hb 4 rfl⟩
theorem zkk {w w1:World} {a0:Value} {t u:TypeId} {ds:Array Value} (hb:Below ((w.alloc (.cells ds u)).alloc (.cells #[a0] t)).heap.size ((w.alloc (.cells ds u)).alloc (.cells #[a0] t)) w1) :
  w1.cell? ⟨w.heap.size+1,0,none⟩=some a0:=zjN hb 0 rfl
theorem zk8 {w w1:World} {a0 a1 a2 a3 a4:Value} {t:TypeId} (hb:Below (w.alloc (.cells #[a0,a1,a2,a3,a4] t)).heap.size (w.alloc (.cells #[a0,a1,a2,a3,a4] t)) w1) :
  w1.cell? ⟨w.heap.size,0,none⟩=some a0∧w1.cell? ⟨w.heap.size,1,none⟩=some a1∧w1.cell? ⟨w.heap.size,2,none⟩=some a2∧w1.cell? ⟨w.heap.size,3,none⟩=some a3∧w1.cell? ⟨w.heap.size,4,none⟩=some a4:=
 ⟨zcO hb 0 rfl,zcO hb 1 rfl,zcO hb 2 rfl,zcO hb 3 rfl,zcO hb 4 rfl⟩
theorem zai {w:World} {b o:Nat} {v:Value} (h:w.cell? ⟨b,o,none⟩=some v):b<w.heap.size:=by
 unfold World.cell? at h
 split at h
 ·rename_i he
  exact (Array.getElem?_eq_some_iff.1 he).1
 ·cases h
theorem zae {w:World} {B:Nat} {x:Dat} {v:Value} (h:RepD w B x v):∃(k n d:Int) (s:ByteArray) (o:Option Addr) (len cap:Nat),v=.agg #[.int .i64 k,.int .i64 n,.int .i64 d,.string s,.slice o len cap]:=by
 obtain ⟨k,n,d,s,l⟩:=x
 obtain ⟨sl,rfl,_,_,_,_,o,len,cap,rfl,_⟩:=h.open
 exact ⟨k,n,d,s,o,len,cap,rfl⟩
end
section
open Go.RowKit
theorem zfc {w w':World} {B:Nat} (hk:∀b o v,w.cell? ⟨b,o,none⟩=some v->w'.cell? ⟨b,o,none⟩=some v) :
  (∀x v,RepD w B x v->RepD w' B x v)∧(∀l b off,RepC w B l b off->RepC w' B l b off):=by
 have both:(∀x:Dat,∀v,RepD w B x v->RepD w' B x v):=by
  intro x
  refine Dat.rec (motive_1:=fun x=>∀v,RepD w B x v->RepD w' B x v) (motive_2:=fun l=>∀b off,RepC w B l b off->RepC w' B l b off) ?_ ?_ ?_ x
  ·intro k n d s l ih v h
   rw[RepD] at h ⊢
   obtain ⟨o,len,cap,rfl,h1,h2,h3,h4,h5,h6,h7,h8⟩:=h
   refine ⟨o,len,cap,rfl,h1,h2,h3,h4,h5,h6,h7,?_⟩
   cases o with
   | none=>exact h8
   | some a=>exact ⟨h8.1,ih _ _ h8.2⟩
  ·intro b off _;rw[RepC];trivial
  ·intro x l ihx ihl b off h
   rw[RepC] at h ⊢
   obtain ⟨⟨c0,c1,c2,c3,c4,h0,h1,h2,h3,h4,h5⟩,h6⟩:=h
   exact ⟨⟨c0,c1,c2,c3,c4,hk _ _ _ h0,hk _ _ _ h1,hk _ _ _ h2,hk _ _ _ h3,hk _ _ _ h4,ihx _ h5⟩,ihl _ _ h6⟩
 refine ⟨both,?_⟩
 intro l
 induction l with
 | nil=>intro b off _;rw[RepC];trivial
 | cons x l ih=>
  intro b off h
  rw[RepC] at h ⊢
  obtain ⟨⟨c0,c1,c2,c3,c4,h0,h1,h2,h3,h4,h5⟩,h6⟩:=h
  exact ⟨⟨c0,c1,c2,c3,c4,hk _ _ _ h0,hk _ _ _ h1,hk _ _ _ h2,hk _ _ _ h3,hk _ _ _ h4,both _ _ h5⟩,ih _ _ h6⟩
theorem RepS.mono {w w':World} {B:Nat} {l:List Dat} {v:Value} (hk:∀b o v,w.cell? ⟨b,o,none⟩=some v->w'.cell? ⟨b,o,none⟩=some v) (h:RepS w B l v):RepS w' B l v:=by
 obtain ⟨o,len,cap,rfl,h1,h2,h3,h4⟩:=h
 refine ⟨o,len,cap,rfl,h1,h2,h3,?_⟩
 cases o with
 | none=>exact h4
 | some a=>exact ⟨h4.1,(zfc hk).2 _ _ _ h4.2⟩
def gap (W:World) (lo hi:Nat):World:={ W with heap:=W.heap.mapIdx fun i o=>if lo<=i∧i<hi then .deferred none else o }
theorem RepC.two {W:World} {B nb:Nat} {x y:Dat} {a0 a1 a2 a3 a4 b0 b1 b2 b3 b4:Value} (h0:W.cell? ⟨nb,0,none⟩=some a0) (h1:W.cell? ⟨nb,1,none⟩=some a1) (h2:W.cell? ⟨nb,2,none⟩=some a2) (h3:W.cell? ⟨nb,3,none⟩=some a3) (h4:W.cell? ⟨nb,4,none⟩=some a4)
  (g0:W.cell? ⟨nb,5,none⟩=some b0) (g1:W.cell? ⟨nb,6,none⟩=some b1) (g2:W.cell? ⟨nb,7,none⟩=some b2) (g3:W.cell? ⟨nb,8,none⟩=some b3) (g4:W.cell? ⟨nb,9,none⟩=some b4)
  (hx:RepD W B x (.agg #[a0,a1,a2,a3,a4])) (hy:RepD W B y (.agg #[b0,b1,b2,b3,b4])):RepC W B [x,y] nb 0:=by
 rw[RepC,RepC,RepC]
 exact ⟨⟨a0,a1,a2,a3,a4,h0,h1,h2,h3,h4,hx⟩,⟨b0,b1,b2,b3,b4,g0,g1,g2,g3,g4,hy⟩,trivial⟩
end
section
open Go.RowKit
theorem zhy (w:World) (s:ByteArray):∃C W1,(convert 9 58 (.string s)).run prog w=.ok (.slice (some ⟨w.heap.size,0,none⟩) s.size C) W1∧Below w.heap.size w W1∧(∀j,j<s.size->W1.cell? ⟨w.heap.size,j,none⟩=some (.int .u8 (s.data.toList.getD j 0).toNat)):=by
 refine ⟨_,_,Lib.run_convert_string_bytes (P:=prog) w 9 58 5 s underlying9 underlying58 underlying5,?_,?_⟩
 ·exact ⟨rfl,rfl,rfl,by rw[Lib.bytesWorld_size];omega,fun k hk=>Lib.bytesWorld_at_old _ _ _ _ hk⟩
 ·intro j hj;exact Lib.bytesWorld_cell _ _ _ _ hj
theorem zcZ {p:UInt8->Bool} {l:List UInt8} {j:Nat} (hj:j<l.length) (h:(l.take j).all p=true) (hp:p (l.getD j 0)=true):(l.take (j+1)).all p=true:=by
 have e:l.take (j+1)=l.take j++[l.getD j 0]:=by
  rw[List.take_add_one,List.getElem?_eq_getElem hj,List.getD_eq_getElem?_getD,List.getElem?_eq_getElem hj];rfl
 rw[e,List.all_append,h,List.all_cons,hp];rfl
theorem zf1 {p:UInt8->Bool} {l:List UInt8} {j:Nat} (hj:j<l.length) (hp:p (l.getD j 0)=false):l.all p=false:=by
 have hm:l.getD j 0∈l:=by
  rw[List.getD_eq_getElem?_getD,List.getElem?_eq_getElem hj];exact List.getElem_mem _
 cases h:l.all p with
 | false=>rfl
 | true=>rw[List.all_eq_true.1 h _ hm] at hp;cases hp
theorem zjK (s:ByteArray) (hs:s.size<=140737488351232) (w:World) :
  Calls prog 83 #[.string s] w fun e w'=>e=.returned (.bool (s.data.toList.all Dat.strByte))∧Below w.heap.size w w':=by
 have hl:s.data.toList.length=s.size:=rfl
 obtain ⟨r,hr⟩:∃r,s.data.toList.all Dat.strByte=r:=⟨_,rfl⟩
 rw[hr]
 have HR:=zh hr
 clear hr
 obtain ⟨C,W1,hcv,hb,hcell⟩:=zhy w s
 have HC:=zh hcell
 have HB:=zh hb
 clear hcell hb
 go_enter func83,ntmps83
 go_wp2
 clear hcv
 go_loop [8] (fun i=>∃j:Nat,i=.int .i64 j∧j<=s.size∧(s.data.toList.take j).all Dat.strByte=true) (fun i=>s.size-(intOf i).toNat)
 case atStart=>exact ⟨0,rfl,by omega,rfl⟩
 case round=>
  obtain ⟨j,rfl,hj,hall⟩:=hrel
  have HA:=zh hall
  clear hall
  by_cases hjs:j<s.size
  ·have hc:=HC.out j hjs
   obtain ⟨b,hbb⟩:∃b,s.data.toList.getD j 0=b:=⟨_,rfl⟩
   rw[hbb] at hc
   have HBB:=zh hbb
   clear hbb
   have h256:b.toNat<256:=b.toNat_lt
   cases hok:Dat.strByte b with
   | true=>
    have hk:=hok
    simp only[Dat.strByte,Bool.and_eq_true,decide_eq_true_eq] at hk
    obtain ⟨k1,k2,k3,k4⟩:=hk
    have m1:((b.toNat:Int)==34)=false:=by simp;omega
    have m2:((b.toNat:Int)==92)=false:=by simp;omega
    have HN:=zh (zcZ (by rw[hl];exact hjs) HA.out (by rw[HBB.out];exact hok))
    clear hok k3 k4
    go_wp2
    go_round
    case rel=>exact ⟨j+1,by go_num,by omega,HN.out⟩
    case measure=>simp[intOf];omega
   | false=>
    have HF:=zh (zf1 (p:=Dat.strByte) (by rw[hl];exact hjs) (by rw[HBB.out];exact hok))
    have hk:b.toNat<32∨126<b.toNat∨b.toNat=34∨b.toNat=92:=by
     apply Decidable.byContradiction
     intro h
     have:Dat.strByte b=true:=by
      simp only[Dat.strByte,Bool.and_eq_true,decide_eq_true_eq];omega
     rw[this] at hok;cases hok
    clear hok
    by_cases p1:b.toNat<32
    ·clear hk
     go_wp2
     go_ret
     exact ⟨zar (by rw[<-HR.out,HF.out]),HB.out⟩
    by_cases p2:126<b.toNat
    ·clear hk
     go_wp2
     go_ret
     exact ⟨zar (by rw[<-HR.out,HF.out]),HB.out⟩
    by_cases p3:b.toNat=34
    ·have m1:((b.toNat:Int)==34)=true:=by simp;omega
     have P3:=zh p3
     clear hk p3
     go_wp2
     go_ret
     exact ⟨zar (by rw[<-HR.out,HF.out]),HB.out⟩
    ·have m1:((b.toNat:Int)==34)=false:=by simp;omega
     have m2:((b.toNat:Int)==92)=true:=by simp;omega
     clear hk p3
     go_wp2
     go_ret
     exact ⟨zar (by rw[<-HR.out,HF.out]),HB.out⟩
  ·have HF:=zh (show s.data.toList.all Dat.strByte=true by rw[<-HA.out,List.take_of_length_le (by rw[hl];omega)])
   go_wp2
   go_ret
   exact ⟨zar (by rw[<-HR.out,HF.out]),HB.out⟩
theorem zkU (b:UInt8):(Lib.indexByte Dat.marks b<0↔Dat.nameByte b=false):=by
 unfold Dat.nameByte
 rw[Lib.contains_iff_indexByte]
 simp
theorem zkx (b:UInt8) (w:World):Calls prog 135 #[.string ⟨#[97,98,99,100,101,102,103,104,105,106,107,108,109,110,111,112,113,114,115,116,117,118,119,120,121,122,48,49,50,51,52,53,54,55,56,57,45,43,42,47,60,62,61,33,63,95,37]⟩,.int .u8 b.toNat] w fun e w'=>e=.returned (.int .i64 (Lib.indexByte Dat.marks b))∧w'=w:=by
 have:=strings_IndexByte ⟨#[97,98,99,100,101,102,103,104,105,106,107,108,109,110,111,112,113,114,115,116,117,118,119,120,121,122,48,49,50,51,52,53,54,55,56,57,45,43,42,47,60,62,61,33,63,95,37]⟩ b.toNat w
 refine this.mono ?_
 rintro e w' ⟨rfl,rfl⟩
 refine ⟨?_,rfl⟩
 simp
 rfl
theorem zjd (s:ByteArray) (hs:s.size<=140737488351232) (w:World) :
  Calls prog 103 #[.string s] w fun e w'=>e=.returned (.bool (s.data.toList.all Dat.nameByte))∧Below w.heap.size w w':=by
 have hl:s.data.toList.length=s.size:=rfl
 obtain ⟨r,hr⟩:∃r,s.data.toList.all Dat.nameByte=r:=⟨_,rfl⟩
 rw[hr]
 have HR:=zh hr
 clear hr
 obtain ⟨C,W1,hcv,hb,hcell⟩:=zhy w s
 have HC:=zh hcell
 have HB:=zh hb
 clear hcell hb
 go_enter func103,ntmps103
 go_wp2
 clear hcv
 go_loop [8] (fun i=>∃j:Nat,i=.int .i64 j∧j<=s.size∧(s.data.toList.take j).all Dat.nameByte=true) (fun i=>s.size-(intOf i).toNat)
 case atStart=>exact ⟨0,rfl,by omega,rfl⟩
 case round=>
  obtain ⟨j,rfl,hj,hall⟩:=hrel
  have HA:=zh hall
  clear hall
  by_cases hjs:j<s.size
  ·have hc:=HC.out j hjs
   obtain ⟨b,hbb⟩:∃b,s.data.toList.getD j 0=b:=⟨_,rfl⟩
   rw[hbb] at hc
   have HBB:=zh hbb
   clear hbb
   have hM:=zkx b
   have hi:=zkU b
   generalize Lib.indexByte Dat.marks b=q at hM hi
   have HM:=zh hM
   clear hM
   cases hok:Dat.nameByte b with
   | true=>
    rw[hok] at hi
    have hq:¬q<0:=by intro h;exact absurd (hi.1 h) (by simp)
    have HN:=zh (zcZ (by rw[hl];exact hjs) HA.out (by rw[HBB.out];exact hok))
    clear hok hi
    go_wp2_with (first | (go_at_call 135;refine (HM.out _).mono ?_;rintro e' w1 ⟨rfl,rfl⟩))
    go_round
    case rel=>exact ⟨j+1,by go_num,by omega,HN.out⟩
    case measure=>simp[intOf];omega
   | false=>
    rw[hok] at hi
    have hq:q<0:=hi.2 rfl
    have HF:=zh (zf1 (p:=Dat.nameByte) (by rw[hl];exact hjs) (by rw[HBB.out];exact hok))
    clear hok hi
    go_wp2_with (first | (go_at_call 135;refine (HM.out _).mono ?_;rintro e' w1 ⟨rfl,rfl⟩))
    go_ret
    exact ⟨zar (by rw[<-HR.out,HF.out]),HB.out⟩
  ·have HF:=zh (show s.data.toList.all Dat.nameByte=true by rw[<-HA.out,List.take_of_length_le (by rw[hl];omega)])
   go_wp2
   go_ret
   exact ⟨zar (by rw[<-HR.out,HF.out]),HB.out⟩
end
section
open Go.RowKit
theorem zeH (s:ByteArray) (T:List UInt8) (hs:s.size<=9223372036854775807) (hT:Lib.trimS s.data.toList Dat.marks=T) (w:World) :
  Calls prog 102 #[.string s,.string ⟨#[97,98,99,100,101,102,103,104,105,106,107,108,109,110,111,112,113,114,115,116,117,118,119,120,121,122,48,49,50,51,52,53,54,55,56,57,45,43,42,47,60,62,61,33,63,95,37]⟩] w fun e w'=>e=.returned (.string ⟨T.toArray⟩)∧Below w.heap.size w w':=by
 have:=zhE s ⟨#[97,98,99,100,101,102,103,104,105,106,107,108,109,110,111,112,113,114,115,116,117,118,119,120,121,122,48,49,50,51,52,53,54,55,56,57,45,43,42,47,60,62,61,33,63,95,37]⟩ hs (by decide) (by decide +kernel) w
 rw[show (⟨#[97,98,99,100,101,102,103,104,105,106,107,108,109,110,111,112,113,114,115,116,117,118,119,120,121,122,48,49,50,51,52,53,54,55,56,57,45,43,42,47,60,62,61,33,63,95,37]⟩:ByteArray).data.toList=Dat.marks from rfl,hT] at this
 exact this
theorem zkI (s:ByteArray) (r:Bool) (hr:s.data.toList.all Dat.nameByte=r) (hs:s.size<=140737488351232) (w:World) :
  Calls prog 103 #[.string s] w fun e w'=>e=.returned (.bool r)∧Below w.heap.size w w':=by
 rw[<-hr];exact zjd s hs w
theorem zkv (s:ByteArray) (x y:Int) (z:Bool) (hp:Num.parse s.data.toList=(x,y,z)) (hs:s.size<=9223372036854775806) (w:World) :
  Calls prog 104 #[.string s] w fun e w'=>e=.returned (.tuple #[.int .i64 x,.int .i64 y,.bool z])∧Below w.heap.size w w':=by
 have:=zi4 s hs w
 rw[hp] at this;exact this
theorem zkZ (s:ByteArray) (hs:s.size<=140737488351232) (w:World) :
  Calls prog 82 #[.string s] w fun e w'=>e=.returned (.bool (Dat.name s.data.toList))∧Below w.heap.size w w':=by
 have hl:s.data.toList.length=s.size:=rfl
 obtain ⟨r,hr⟩:∃r,Dat.name s.data.toList=r:=⟨_,rfl⟩
 rw[hr]
 unfold Dat.name at hr
 rw[hl] at hr
 by_cases h0:s.size=0
 ·have HR:=zh (show r=false by rw[<-hr,h0];rfl)
  clear hr
  go_enter func82,ntmps82
  go_wp2
  go_ret
  exact ⟨zar HR.out.symm,Below.self _⟩
 have hne:¬s=ByteArray.empty:=by rintro rfl;simp at h0
 have hz:((s.size:Int)==0)=false:=by simpa using hne
 by_cases h40:40<s.size
 ·have HR:=zh (show r=false by rw[<-hr,decide_eq_false (by omega:¬s.size<=40)];simp)
  clear hr
  go_enter func82,ntmps82
  go_wp2
  go_ret
  exact ⟨zar HR.out.symm,Below.self _⟩
 rw[decide_eq_true (by omega:1<=s.size),decide_eq_true (by omega:s.size<=40)] at hr
 simp only[Bool.true_and] at hr
 obtain ⟨T,hT⟩:∃T,Lib.trimS s.data.toList Dat.marks=T:=⟨_,rfl⟩
 have hall:s.data.toList.all Dat.nameByte=T.isEmpty:=by
  rw[Bool.eq_iff_iff,List.all_eq_true,List.isEmpty_iff,<-hT,Num.trimS_nil]
  exact Iff.rfl
 cases he:T.isEmpty with
 | false=>
  have HR:=zh (show r=false by rw[<-hr,hall,he];rfl)
  have HT:=zh hT
  clear hr hall hT
  go_enter func82,ntmps82
  go_wp2_with (first | (go_at_call 102;refine (zeH s T (by omega) HT.out _).mono ?_;rintro e' w1 ⟨rfl,hb⟩))
  go_ret
  exact ⟨zar HR.out.symm,hb⟩
 | true=>
  rw[List.isEmpty_iff] at he
  subst he
  obtain ⟨x,y,z,hp⟩:∃x y z,Num.parse s.data.toList=(x,y,z):=⟨_,_,_,rfl⟩
  have HR:=zh (show r = !z by rw[<-hr,hall,hp];rfl)
  have HT:=zh hT
  have HA:=zh (show s.data.toList.all Dat.nameByte=true by rw[hall];rfl)
  have HP:=zh hp
  clear hr hall hT hp
  go_enter func82,ntmps82
  go_wp2_with (first | (go_at_call 102;refine (zeH s [] (by omega) HT.out _).mono ?_;rintro e' w1 ⟨rfl,hb⟩) | (go_at_call 103;refine (zkI s true HA.out hs _).mono ?_;rintro e' w2 ⟨rfl,hb2⟩) | (go_at_call 104;refine (zkv s x y z HP.out (by omega) _).mono ?_;rintro e' w3 ⟨rfl,hb3⟩))
  go_ret
  exact ⟨zar HR.out.symm,Below.next (Below.next hb hb2) hb3⟩
end
section
open Go.RowKit
namespace Num
def part (l:List UInt8):Int × Int:=
 if 10<(l.takeWhile isDigit).length then (0,0) else (((Lib.decFrom 0 (l.takeWhile isDigit)).getD 0:Nat),((l.takeWhile isDigit).length:Nat))
theorem takeWhile_at (l:List UInt8) (k:Nat) (hk:k<=l.length) (h:∀b∈l.take k,isDigit b=true) (hs:∀b,l[k]?=some b->isDigit b=false):l.takeWhile isDigit=l.take k:=by
 induction l generalizing k with
 | nil=>simp
 | cons b l ih=>
  cases k with
  | zero=>
   have:=hs b rfl
   simp[this]
  | succ k=>
   simp only[List.take_succ_cons,List.mem_cons,forall_eq_or_imp] at h
   simp only[List.takeWhile_cons,h.1,if_true,List.take_succ_cons]
   rw[ih k (by simpa using hk) h.2 (fun c hc=>hs c (by simpa using hc))]
end Num
theorem zck {a b:Int} {p:Int × Int} (h:p=(a,b)):Ending.returned (.tuple #[.int .i64 a,.int .i64 b])=.returned (.tuple #[.int .i64 p.1,.int .i64 p.2]):=by
 rw[h]
theorem zc4 {s:ByteArray} {k m:Nat} (hT:s.data.toList.takeWhile Num.isDigit=s.data.toList.take k) (hk:k<=s.size) (h10:k<=10) (hm:Lib.decFrom 0 (s.data.toList.take (min k 10))=some m) :
  Num.part s.data.toList=((m:Int),(k:Int)):=by
 have hl:(s.data.toList.take k).length=k:=by rw[List.length_take];exact Nat.min_eq_left hk
 have e:min k 10=k:=by omega
 rw[e] at hm
 unfold Num.part
 rw[hT,hl,if_neg (by omega),hm]
 rfl
theorem ze8 {s:ByteArray} {k:Nat} (hT:s.data.toList.takeWhile Num.isDigit=s.data.toList.take k) (hk:k<=s.size) (h10:¬k<=10) :
  Num.part s.data.toList=(0,0):=by
 have hl:(s.data.toList.take k).length=k:=by rw[List.length_take];exact Nat.min_eq_left hk
 unfold Num.part
 rw[hT,hl,if_pos (by omega)]
theorem zjg (s:ByteArray) (hs:s.size<=140737488355328) (w:World) :
  Calls prog 124 #[.string s] w fun e w'=>e=.returned (.tuple #[.int .i64 (Num.part s.data.toList).1,.int .i64 (Num.part s.data.toList).2])∧w=w':=by
 have hl:s.data.toList.length=s.size:=rfl
 go_enter func124,ntmps124
 go_wp2
 go_loop [4,5] (fun x y=>∃(k m:Nat),x=.int .i64 m∧y=.int .i64 k∧k<=s.size∧(∀b∈s.data.toList.take k,Num.isDigit b=true)∧Lib.decFrom 0 (s.data.toList.take (min k 10))=some m) (fun _ y=>s.size-(intOf y).toNat)
 case atStart=>exact ⟨0,0,rfl,rfl,by omega,by simp,rfl⟩
 case round=>
  obtain ⟨k,m,rfl,rfl,hk,hd,hm⟩:=hrel
  have hm10:m<10000000000:=by
   have:=Lib.decFrom_lt _ 0 m hm
   have hp:10 ^ (s.data.toList.take (min k 10)).length<=10 ^ 10:=Nat.pow_le_pow_right (by omega) (by rw[List.length_take];omega)
   omega
  have HM:=zh hm
  have HD:=zh hd
  clear hm hd
  by_cases hlt:k<s.size
  ·have hget:s.data.toList[k]?=some s[k]:=by
    rw[List.getElem?_eq_getElem (by rw[hl];exact hlt)];rfl
   have HG:=zh hget
   clear hget
   have h256:(s[k].toNat:Int)<256:=by have:=s[k].toNat_lt;omega
   cases hdig:Num.isDigit s[k] with
   | true=>
    have hb:=hdig
    simp only[Num.isDigit,Bool.and_eq_true,decide_eq_true_eq] at hb
    obtain ⟨hb1,hb2⟩:=hb
    have hb3:(48:Int)<=s[k].toNat:=by omega
    have hb4:(s[k].toNat:Int)<=57:=by omega
    have HD2:=zh (show ∀b∈s.data.toList.take (k+1),Num.isDigit b=true by
     rw[List.take_add_one,HG.out]
     intro b hb
     rcases List.mem_append.1 hb with hb | hb
     ·exact HD.out b hb
     ·simp at hb;subst hb;exact hdig)
    have hv:=Num.digitVal_some hdig
    clear hdig
    by_cases h10:k<10
    ·have HM2:=zh (show Lib.decFrom 0 (s.data.toList.take (min (k+1) 10))=some (m*10+(s[k].toNat-48)) by
      have e1:min (k+1) 10=k+1:=by omega
      have e2:min k 10=k:=by omega
      have:=HM.out
      rw[e2] at this
      rw[e1]
      exact Lib.decFrom_take _ k 0 m _ _ this HG.out hv)
     clear hv
     go_wp2
     go_round
     case rel=>exact ⟨k+1,m*10+(s[k].toNat-48),by go_num,by go_num,by omega,HD2.out,HM2.out⟩
     case measure=>simp[intOf];omega
    ·have HM2:=zh (show Lib.decFrom 0 (s.data.toList.take (min (k+1) 10))=some m by
      have e1:min (k+1) 10=min k 10:=by omega
      rw[e1];exact HM.out)
     clear hv
     go_wp2
     go_round
     case rel=>exact ⟨k+1,m,rfl,by go_num,by omega,HD2.out,HM2.out⟩
     case measure=>simp[intOf];omega
   | false=>
    have HT:=zh (show s.data.toList.takeWhile Num.isDigit=s.data.toList.take k from Num.takeWhile_at _ k (by rw[hl];omega) HD.out (fun b hb=>by rw[HG.out] at hb;cases hb;exact hdig))
    have hb:¬(48<=s[k].toNat∧s[k].toNat<=57):=by
     intro h;simp[Num.isDigit,h] at hdig
    clear hdig
    by_cases h48:(48:Int)<=s[k].toNat
    ·have h57:¬(s[k].toNat:Int)<=57:=by omega
     clear hb
     by_cases h10:k<=10
     ·go_wp2
      go_ret2
      exact ⟨zck (zc4 HT.out hk h10 HM.out),rfl⟩
     ·go_wp2
      go_ret2
      exact ⟨zck (ze8 HT.out hk h10),rfl⟩
    ·clear hb
     by_cases h10:k<=10
     ·go_wp2
      go_ret2
      exact ⟨zck (zc4 HT.out hk h10 HM.out),rfl⟩
     ·go_wp2
      go_ret2
      exact ⟨zck (ze8 HT.out hk h10),rfl⟩
  ·have HT:=zh (show s.data.toList.takeWhile Num.isDigit=s.data.toList.take k from Num.takeWhile_at _ k (by rw[hl];omega) HD.out (fun b hb=>by
    rw[List.getElem?_eq_none (by rw[hl];omega)] at hb;cases hb))
   by_cases h10:k<=10
   ·go_wp2
    go_ret2
    exact ⟨zck (zc4 HT.out hk h10 HM.out),rfl⟩
   ·go_wp2
    go_ret2
    exact ⟨zck (ze8 HT.out hk h10),rfl⟩
end
section
open Go.RowKit
namespace Num
theorem zbz (p:UInt8->Bool) (l:List UInt8):(∀b∈l.takeWhile p,p b=true)∧l=l.takeWhile p++l.dropWhile p∧(∀c t,l.dropWhile p=c::t->p c=false):=by
 induction l with
 | nil=>simp
 | cons c l ih=>
  simp only[List.takeWhile_cons,List.dropWhile_cons]
  split
  ·rename_i h
   refine ⟨by simpa[h] using ih.1,by rw[List.cons_append,<-ih.2.1],ih.2.2⟩
  ·rename_i h
   refine ⟨by simp,by simp,?_⟩
   intro d t hd
   simp only[List.cons.injEq] at hd
   rw[<-hd.1];simpa using h
theorem zfO (l:List UInt8):((part l).2≠0∧(part l).2=l.length->∃m:Nat,nat? l=some m∧(part l).1=m)∧(¬((part l).2≠0∧(part l).2=l.length)->nat? l=none):=by
 obtain ⟨hd,hs,hc⟩:=zbz isDigit l
 obtain ⟨m,hm⟩:=zbq (l.takeWhile isDigit) 0 hd
 generalize hA:l.takeWhile isDigit=A at *
 generalize hB:l.dropWhile isDigit=B at *
 unfold part
 rw[hA]
 have none_of:(B≠[]∨10<A.length∨A=[])->nat? l=none:=by
  intro h
  unfold nat?
  split
  ·rename_i hl
   rcases h with h | h | h
   ·unfold Lib.decNat
    split
    ·rfl
    ·refine zbK l 0 ?_
     cases B with
     | nil=>exact absurd rfl h
     | cons c t=>exact ⟨c,by rw[hs];simp,hc c t rfl⟩
   ·have:=congrArg List.length hs
    rw[List.length_append] at this;omega
   ·cases B with
    | nil=>rw[hs,h];rfl
    | cons c t=>
     unfold Lib.decNat
     split
     ·rfl
     ·exact zbK l 0 ⟨c,by rw[hs];simp,hc c t rfl⟩
  ·rfl
 have jk:=congrArg List.length hs
 rw[List.length_append] at jk
 constructor
 ·split
  ·intro h;simp at h
  ·rename_i h10
   intro ⟨h1,h2⟩
   have hB0:B=[]:=by
    apply List.length_eq_zero_iff.1
    simp only at h2;omega
   subst hB0
   rw[List.append_nil] at hs
   subst hs
   refine ⟨m,?_,by rw[hm];rfl⟩
   unfold nat? Lib.decNat
   rw[if_pos (by omega),if_neg (by simp only[List.isEmpty_iff];rintro rfl;simp at h1),hm]
 ·split
  ·rename_i h10
   intro _;exact none_of (.inr (.inl h10))
  ·rename_i h10
   intro h
   by_cases hA0:A=[]
   ·exact none_of (.inr (.inr hA0))
   ·refine none_of (.inl ?_)
    rintro rfl
    apply h
    have:A.length≠0:=fun e=>hA0 (List.length_eq_zero_iff.1 e)
    simp only[qzO] at jk
    constructor
    ·simp only[];omega
    ·simp only[];omega
theorem tw_tw (r:List UInt8):(r.takeWhile noSlash).takeWhile isDigit=r.takeWhile isDigit:=by
 induction r with
 | nil=>rfl
 | cons a r ih=>
  cases h:isDigit a with
  | true=>simp[zdw h,h,ih]
  | false=>
   cases h2:noSlash a<;>simp[h,h2]
def fin (neg:Bool) (n d:Int):Int × Int × Bool:=
 ((mk (if neg then -n else n) d).1,(mk (if neg then -n else n) d).2.1,decide ((mk (if neg then -n else n) d).2.2=0))
theorem part_bd (l:List UInt8):0<=(part l).1∧(part l).1<10000000000∧0<=(part l).2∧(part l).2<=10∧(part l).2<=l.length:=by
 obtain ⟨hd,hs,hc⟩:=zbz isDigit l
 obtain ⟨m,hm⟩:=zbq (l.takeWhile isDigit) 0 hd
 have jk:=congrArg List.length hs
 rw[List.length_append] at jk
 unfold part
 split
 ·simp
 ·rename_i h10
  have h1:=Lib.decFrom_lt _ 0 m hm
  have hp:10 ^ (l.takeWhile isDigit).length<=10 ^ 10:=Nat.pow_le_pow_right (by omega) (by omega)
  rw[hm]
  simp only[Option.getD_some]
  omega
theorem parseU_ref (neg:Bool) (r:List UInt8) (n k:Int) (hp:part r=(n,k)) :
  (k=0->parseU neg r=(0,0,false))∧(k≠0->k=r.length->parseU neg r=fin neg n 1) ∧
  (k≠0->k<r.length->∀b,r[k.toNat]?=some b->b≠47->parseU neg r=(0,0,false)) ∧
  (k≠0->k<r.length->r[k.toNat]?=some 47->∀d j,part (r.drop (k.toNat+1))=(d,j) ->
   (j=0∨k+1+j≠r.length->parseU neg r=(0,0,false))∧(j≠0->k+1+j=r.length->parseU neg r=fin neg n d)):=by
 have hA:part (r.takeWhile noSlash)=(n,k):=by
  rw[<-hp]
  unfold part
  have:(r.takeWhile noSlash).takeWhile isDigit=r.takeWhile isDigit:=by
   exact tw_tw r
  rw[this]
 obtain ⟨h1,h2⟩:=zfO (r.takeWhile noSlash)
 have bd:=part_bd (r.takeWhile noSlash)
 have hkA:=bd.2.2.2.2
 have hk0:=bd.2.2.1
 rw[hA] at h1 h2 hkA hk0
 simp only at h1 h2 hkA hk0
 obtain ⟨sd,ss,sc⟩:=zbz noSlash r
 have jk:=congrArg List.length ss
 rw[List.length_append] at jk
 have none_of:nat? (r.takeWhile noSlash)=none->parseU neg r=(0,0,false):=by
  intro h;unfold parseU;rw[h]
 have get:k=(r.takeWhile noSlash).length->r[k.toNat]?=(r.dropWhile noSlash)[0]?:=by
  intro h
  have e:r[k.toNat]?=(r.takeWhile noSlash++r.dropWhile noSlash)[k.toNat]?:=by rw[<-ss]
  rw[e,List.getElem?_append_right (by omega)]
  congr 1;omega
 refine ⟨?_,?_,?_,?_⟩
 ·intro h0
  exact none_of (h2 (fun h=>h.1 h0))
 ·intro h0 hk
  obtain ⟨m,hm,he⟩:=h1 ⟨h0,by omega⟩
  have hD:r.dropWhile noSlash=[]:=List.length_eq_zero_iff.1 (by omega)
  unfold parseU lower
  rw[hm,hD]
  simp only[]
  rw[show nat? [49]=some 1 from rfl]
  unfold fin
  rw[he];rfl
 ·intro h0 hk b hb hne
  refine none_of (h2 ?_)
  intro h
  rw[get h.2] at hb
  cases hD:r.dropWhile noSlash with
  | nil=>rw[hD] at hb;cases hb
  | cons c t=>
   rw[hD] at hb
   have:=sc c t hD
   simp only[List.getElem?_cons_zero,Option.some.injEq] at hb
   subst hb
   simp only[noSlash,bne_eq_false_iff_eq] at this
   exact hne this
 ·intro h0 hk hb d j hq
  have hkk:k=(r.takeWhile noSlash).length:=by
   apply Decidable.byContradiction
   intro hne
   have hlt:k.toNat<(r.takeWhile noSlash).length:=by omega
   have e:r[k.toNat]?=(r.takeWhile noSlash++r.dropWhile noSlash)[k.toNat]?:=by rw[<-ss]
   rw[e,List.getElem?_append_left hlt] at hb
   have:=sd 47 (List.mem_of_getElem? hb)
   exact absurd this (by decide)
  obtain ⟨m,hm,he⟩:=h1 ⟨h0,hkk⟩
  have hg:=get hkk
  rw[hb] at hg
  cases hD:r.dropWhile noSlash with
  | nil=>rw[hD] at hg;cases hg
  | cons c t=>
   rw[hD] at hg ss jk
   simp only[List.getElem?_cons_zero,Option.some.injEq] at hg
   subst hg
   have ht:r.drop (k.toNat+1)=t:=by
    have e:k.toNat+1=(r.takeWhile noSlash++[47]).length:=by rw[List.length_append];simp;omega
    have e2:r=(r.takeWhile noSlash++[47])++t:=by rw[List.append_assoc];exact ss
    rw[e]
    conv=>lhs;rw[e2]
    have:(r.takeWhile noSlash++[47]++t).drop (r.takeWhile noSlash++[47]).length=t:=List.drop_left
    rw[<-e2] at this
    rw[<-e2];exact this
   rw[ht] at hq
   obtain ⟨g1,g2⟩:=zfO t
   rw[hq] at g1 g2
   simp only at g1 g2
   simp only[qzN] at jk
   constructor
   ·intro h
    have:=g2 (by intro hc;omega)
    unfold parseU lower
    rw[hm,hD]
    simp only[this]
   ·intro hj hl
    obtain ⟨m',hm',he'⟩:=g1 ⟨hj,by omega⟩
    unfold parseU lower
    rw[hm,hD]
    simp only[hm']
    unfold fin
    rw[he,he']
end Num
end
section
open Go.RowKit
theorem zbo {a b:Int} {p q:Bool} {P:Int × Int × Bool} (h:P=(a,b,q)) (h':p=q):Ending.returned (.tuple #[.int .i64 a,.int .i64 b,.bool p])=.returned (.tuple #[.int .i64 P.1,.int .i64 P.2.1,.bool P.2.2]):=by
 rw[h,h']
theorem za4 (s:ByteArray) (n:Int) (K:Nat) (h:Num.part s.data.toList=(n,(K:Int))) (hs:s.size<=140737488355328) (w:World) :
  Calls prog 124 #[.string s] w fun e w'=>e=.returned (.tuple #[.int .i64 n,.int .i64 K])∧w=w':=by
 have:=zjg s hs w
 simp only[h] at this
 exact this
theorem zcV (l:List UInt8):∃(n:Int) (K:Nat),Num.part l=(n,(K:Int))∧0<=n∧n<10000000000∧K<=10∧K<=l.length:=by
 have h:=Num.part_bd l
 refine ⟨(Num.part l).1,(Num.part l).2.toNat,?_,h.1,h.2.1,by omega,by omega⟩
 rw[Int.toNat_of_nonneg h.2.2.1]
theorem zh5 (s R:ByteArray) (res:Int × Int × Bool) (hs:s.size<=140737488355328) (h0:0<s.size) (h45:((s[0].toNat:Int)==45)=true) (hR:s.extract 1 s.size=R) (hRl:R.size<=140737488355328) (hF:res=Num.parseU true R.data.toList) (w:World) :
  Calls prog 96 #[.string s] w fun e w'=>e=.returned (.tuple #[.int .i64 res.1,.int .i64 res.2.1,.bool res.2.2])∧Below w.heap.size w w':=by
 have hl:R.data.toList.length=R.size:=rfl
 obtain ⟨n,K,hp,n0,n1,k0,k1⟩:=zcV R.data.toList
 obtain ⟨c1,c2,c3,c4⟩:=Num.parseU_ref true R.data.toList n K hp
 rw[hl] at k1 c2 c3 c4
 have e0:(K:Int).toNat=K:=rfl
 rw[e0] at c3 c4
 have HP:=zh hp
 by_cases a0:K=0
 ·have hf:=zh (hF.trans (c1 (by omega)))
  clear c1 c2 c3 c4 hF hp e0
  subst a0
  go_enter func96,ntmps96
  go_wp2_with (first | (go_at_call 124;((with_reducible refine (za4 R n 0 HP.out hRl _).mono ?_);rintro e' w1 ⟨rfl,rfl⟩)))
  go_ret3
  exact ⟨zbo hf.out rfl,by first | exact Below.self _ | exact Below.selfN _ _⟩
 have a1:((K:Int)==0)=false:=by simpa using a0
 by_cases a2:K=R.size
 ·have c2':=c2 (by omega) (by omega)
  have HC:=zh c2'
  have a3:¬K<R.size:=by omega
  have A2:=zh a2
  clear c1 c2 c3 c4 c2' e0 a2
  obtain ⟨x,y,z,hm⟩:∃x y z,Num.mk (-n) 1=(x,y,z):=⟨_,_,_,rfl⟩
  have HM:=zh hm
  have HF:=zh (hF.trans ((HC.out).trans (show Num.fin true n 1=(x,y,decide (z=0)) by unfold Num.fin;simp[hm])))
  clear hm hp hF
  go_enter func96,ntmps96
  go_wp2_with (first | (go_at_call 124;((with_reducible refine (za4 R n K HP.out hRl _).mono ?_);rintro e' w1 ⟨rfl,rfl⟩)) | (go_at_call 125;refine (zdE (-n) 1 x y z HM.out (by omega) (by omega) (by omega) (by omega) _).mono ?_;rintro e' w1 ⟨rfl,nk,rfl⟩))
  go_ret3
  exact ⟨zbo HF.out (by first | rfl | simp),by first | exact Below.self _ | exact Below.selfN _ _⟩
 have a4:K<R.size:=by omega
 have hg:R.data.toList[K]?=some R[K]:=by rw[List.getElem?_eq_getElem (by rw[hl];exact a4)];rfl
 cases b:((R[K].toNat:Int)==47) with
 | false=>
  have hne:R[K]≠47:=by rintro h;rw[h] at b;exact absurd b (by decide)
  have hf:=zh (hF.trans (c3 (by omega) (by omega) _ hg hne))
  have A2:=zh a2
  clear c1 c2 c3 c4 hF hp e0 hg hne a2
  go_enter func96,ntmps96
  go_wp2_with (first | (go_at_call 124;((with_reducible refine (za4 R n K HP.out hRl _).mono ?_);rintro e' w1 ⟨rfl,rfl⟩)))
  go_ret3
  exact ⟨zbo hf.out rfl,by first | exact Below.self _ | exact Below.selfN _ _⟩
 | true=>
  have heq:R[K]=47:=by
   have:(R[K].toNat:Int)=47:=by simpa using b
   apply UInt8.toNat_inj.1
   show R[K].toNat=47
   omega
  rw[heq] at hg
  obtain ⟨T,hT⟩:∃T,R.extract (K+1) R.size=T:=⟨_,rfl⟩
  have hTd:T.data.toList=R.data.toList.drop (K+1):=by
   rw[<-hT,zbl,<-hl,List.take_length]
  have hTs:T.size=R.size-(K+1):=by rw[<-hT];simp
  have hTl:T.size<=140737488355328:=by omega
  obtain ⟨d,J,hq,d0,d1,j0,j1⟩:=zcV T.data.toList
  have HQ:=zh hq
  rw[hTd] at hq
  obtain ⟨g1,g2⟩:=c4 (by omega) (by omega) hg d J hq
  have A2:=zh a2
  clear c1 c2 c3 c4 e0 hg heq hq hTd j1 a2
  by_cases b0:J=0
  ·have hf:=zh (hF.trans (g1 (.inl (by omega))))
   clear g1 g2 hF hp
   subst b0
   go_enter func96,ntmps96
   go_wp2_with (first | (go_at_call 124;((with_reducible refine (za4 R n K HP.out hRl _).mono ?_);rintro e' w1 ⟨rfl,rfl⟩)) | (go_at_call 124;((with_reducible refine (za4 T d 0 HQ.out hTl _).mono ?_);rintro e' w1 ⟨rfl,rfl⟩)))
   go_ret3
   exact ⟨zbo hf.out rfl,by first | exact Below.self _ | exact Below.selfN _ _⟩
  have b1:((J:Int)==0)=false:=by simpa using b0
  by_cases b2:K+1+J=R.size
  ·have g2':=g2 (by omega) (by omega)
   have HC:=zh g2'
   have b3:((K:Int)+1+J != R.size)=false:=by simp;omega
   have B2:=zh b2
   clear g1 g2 g2' b2
   obtain ⟨x,y,z,hm⟩:∃x y z,Num.mk (-n) d=(x,y,z):=⟨_,_,_,rfl⟩
   have HM:=zh hm
   have HF:=zh (hF.trans ((HC.out).trans (show Num.fin true n d=(x,y,decide (z=0)) by unfold Num.fin;simp[hm])))
   clear hm hp hF
   go_enter func96,ntmps96
   go_wp2_with (first | (go_at_call 124;((with_reducible refine (za4 R n K HP.out hRl _).mono ?_);rintro e' w1 ⟨rfl,rfl⟩)) | (go_at_call 124;((with_reducible refine (za4 T d J HQ.out hTl _).mono ?_);rintro e' w1 ⟨rfl,rfl⟩)) | (go_at_call 125;refine (zdE (-n) d x y z HM.out (by omega) (by omega) (by omega) (by omega) _).mono ?_;rintro e' w1 ⟨rfl,nk,rfl⟩))
   go_ret3
   exact ⟨zbo HF.out (by first | rfl | simp),by first | exact Below.self _ | exact Below.selfN _ _⟩
  ·have hf:=zh (hF.trans (g1 (.inr (by omega))))
   have b3:((K:Int)+1+J != R.size)=true:=by simp;omega
   have B2:=zh b2
   clear g1 g2 hF hp b2
   go_enter func96,ntmps96
   go_wp2_with (first | (go_at_call 124;((with_reducible refine (za4 R n K HP.out hRl _).mono ?_);rintro e' w1 ⟨rfl,rfl⟩)) | (go_at_call 124;((with_reducible refine (za4 T d J HQ.out hTl _).mono ?_);rintro e' w1 ⟨rfl,rfl⟩)))
   go_ret3
   exact ⟨zbo hf.out rfl,by first | exact Below.self _ | exact Below.selfN _ _⟩
theorem ziN (s R:ByteArray) (res:Int × Int × Bool) (hs:s.size<=140737488355328) (h0:0<s.size) (h45:((s[0].toNat:Int)==45)=false) (hR:s=R) (hRl:R.size<=140737488355328) (hF:res=Num.parseU false R.data.toList) (w:World) :
  Calls prog 96 #[.string s] w fun e w'=>e=.returned (.tuple #[.int .i64 res.1,.int .i64 res.2.1,.bool res.2.2])∧Below w.heap.size w w':=by
 subst hR
 have hl:s.data.toList.length=s.size:=rfl
 obtain ⟨n,K,hp,n0,n1,k0,k1⟩:=zcV s.data.toList
 obtain ⟨c1,c2,c3,c4⟩:=Num.parseU_ref false s.data.toList n K hp
 rw[hl] at k1 c2 c3 c4
 have e0:(K:Int).toNat=K:=rfl
 rw[e0] at c3 c4
 have HP:=zh hp
 by_cases a0:K=0
 ·have hf:=zh (hF.trans (c1 (by omega)))
  clear c1 c2 c3 c4 hF hp e0
  subst a0
  go_enter func96,ntmps96
  go_wp2_with (first | (go_at_call 124;((with_reducible refine (za4 s n 0 HP.out hRl _).mono ?_);rintro e' w1 ⟨rfl,rfl⟩)))
  go_ret3
  exact ⟨zbo hf.out rfl,by first | exact Below.self _ | exact Below.selfN _ _⟩
 have a1:((K:Int)==0)=false:=by simpa using a0
 by_cases a2:K=s.size
 ·have c2':=c2 (by omega) (by omega)
  have HC:=zh c2'
  have a3:¬K<s.size:=by omega
  have A2:=zh a2
  clear c1 c2 c3 c4 c2' e0 a2
  obtain ⟨x,y,z,hm⟩:∃x y z,Num.mk n 1=(x,y,z):=⟨_,_,_,rfl⟩
  have HM:=zh hm
  have HF:=zh (hF.trans ((HC.out).trans (show Num.fin false n 1=(x,y,decide (z=0)) by unfold Num.fin;simp[hm])))
  clear hm hp hF
  go_enter func96,ntmps96
  go_wp2_with (first | (go_at_call 124;((with_reducible refine (za4 s n K HP.out hRl _).mono ?_);rintro e' w1 ⟨rfl,rfl⟩)) | (go_at_call 125;refine (zdE n 1 x y z HM.out (by omega) (by omega) (by omega) (by omega) _).mono ?_;rintro e' w1 ⟨rfl,nk,rfl⟩))
  go_ret3
  exact ⟨zbo HF.out (by first | rfl | simp),by first | exact Below.self _ | exact Below.selfN _ _⟩
 have a4:K<s.size:=by omega
 have hg:s.data.toList[K]?=some s[K]:=by rw[List.getElem?_eq_getElem (by rw[hl];exact a4)];rfl
 cases b:((s[K].toNat:Int)==47) with
 | false=>
  have hne:s[K]≠47:=by rintro h;rw[h] at b;exact absurd b (by decide)
  have hf:=zh (hF.trans (c3 (by omega) (by omega) _ hg hne))
  have A2:=zh a2
  clear c1 c2 c3 c4 hF hp e0 hg hne a2
  go_enter func96,ntmps96
  go_wp2_with (first | (go_at_call 124;((with_reducible refine (za4 s n K HP.out hRl _).mono ?_);rintro e' w1 ⟨rfl,rfl⟩)))
  go_ret3
  exact ⟨zbo hf.out rfl,by first | exact Below.self _ | exact Below.selfN _ _⟩
 | true=>
  have heq:s[K]=47:=by
   have:(s[K].toNat:Int)=47:=by simpa using b
   apply UInt8.toNat_inj.1
   show s[K].toNat=47
   omega
  rw[heq] at hg
  obtain ⟨T,hT⟩:∃T,s.extract (K+1) s.size=T:=⟨_,rfl⟩
  have hTd:T.data.toList=s.data.toList.drop (K+1):=by
   rw[<-hT,zbl,<-hl,List.take_length]
  have hTs:T.size=s.size-(K+1):=by rw[<-hT];simp
  have hTl:T.size<=140737488355328:=by omega
  obtain ⟨d,J,hq,d0,d1,j0,j1⟩:=zcV T.data.toList
  have HQ:=zh hq
  rw[hTd] at hq
  obtain ⟨g1,g2⟩:=c4 (by omega) (by omega) hg d J hq
  have A2:=zh a2
  clear c1 c2 c3 c4 e0 hg heq hq hTd j1 a2
  by_cases b0:J=0
  ·have hf:=zh (hF.trans (g1 (.inl (by omega))))
   clear g1 g2 hF hp
   subst b0
   go_enter func96,ntmps96
   go_wp2_with (first | (go_at_call 124;((with_reducible refine (za4 s n K HP.out hRl _).mono ?_);rintro e' w1 ⟨rfl,rfl⟩)) | (go_at_call 124;((with_reducible refine (za4 T d 0 HQ.out hTl _).mono ?_);rintro e' w1 ⟨rfl,rfl⟩)))
   go_ret3
   exact ⟨zbo hf.out rfl,by first | exact Below.self _ | exact Below.selfN _ _⟩
  have b1:((J:Int)==0)=false:=by simpa using b0
  by_cases b2:K+1+J=s.size
  ·have g2':=g2 (by omega) (by omega)
   have HC:=zh g2'
   have b3:((K:Int)+1+J != s.size)=false:=by simp;omega
   have B2:=zh b2
   clear g1 g2 g2' b2
   obtain ⟨x,y,z,hm⟩:∃x y z,Num.mk n d=(x,y,z):=⟨_,_,_,rfl⟩
   have HM:=zh hm
   have HF:=zh (hF.trans ((HC.out).trans (show Num.fin false n d=(x,y,decide (z=0)) by unfold Num.fin;simp[hm])))
   clear hm hp hF
   go_enter func96,ntmps96
   go_wp2_with (first | (go_at_call 124;((with_reducible refine (za4 s n K HP.out hRl _).mono ?_);rintro e' w1 ⟨rfl,rfl⟩)) | (go_at_call 124;((with_reducible refine (za4 T d J HQ.out hTl _).mono ?_);rintro e' w1 ⟨rfl,rfl⟩)) | (go_at_call 125;refine (zdE n d x y z HM.out (by omega) (by omega) (by omega) (by omega) _).mono ?_;rintro e' w1 ⟨rfl,nk,rfl⟩))
   go_ret3
   exact ⟨zbo HF.out (by first | rfl | simp),by first | exact Below.self _ | exact Below.selfN _ _⟩
  ·have hf:=zh (hF.trans (g1 (.inr (by omega))))
   have b3:((K:Int)+1+J != s.size)=true:=by simp;omega
   have B2:=zh b2
   clear g1 g2 hF hp b2
   go_enter func96,ntmps96
   go_wp2_with (first | (go_at_call 124;((with_reducible refine (za4 s n K HP.out hRl _).mono ?_);rintro e' w1 ⟨rfl,rfl⟩)) | (go_at_call 124;((with_reducible refine (za4 T d J HQ.out hTl _).mono ?_);rintro e' w1 ⟨rfl,rfl⟩)))
   go_ret3
   exact ⟨zbo hf.out rfl,by first | exact Below.self _ | exact Below.selfN _ _⟩
theorem zgj (s R:ByteArray) (res:Int × Int × Bool) (_hs:s.size<=140737488355328) (h0:s.size=0) (hR:s=R) (hRl:R.size<=140737488355328) (hF:res=Num.parseU false R.data.toList) (w:World) :
  Calls prog 96 #[.string s] w fun e w'=>e=.returned (.tuple #[.int .i64 res.1,.int .i64 res.2.1,.bool res.2.2])∧Below w.heap.size w w':=by
 subst hR
 have hl:s.data.toList.length=s.size:=rfl
 obtain ⟨n,K,hp,n0,n1,k0,k1⟩:=zcV s.data.toList
 obtain ⟨c1,c2,c3,c4⟩:=Num.parseU_ref false s.data.toList n K hp
 rw[hl] at k1 c2 c3 c4
 have e0:(K:Int).toNat=K:=rfl
 rw[e0] at c3 c4
 have HP:=zh hp
 by_cases a0:K=0
 ·have hf:=zh (hF.trans (c1 (by omega)))
  clear c1 c2 c3 c4 hF hp e0
  subst a0
  go_enter func96,ntmps96
  go_wp2_with (first | (go_at_call 124;((with_reducible refine (za4 s n 0 HP.out hRl _).mono ?_);rintro e' w1 ⟨rfl,rfl⟩)))
  go_ret3
  exact ⟨zbo hf.out rfl,by first | exact Below.self _ | exact Below.selfN _ _⟩
 ·exfalso;omega
theorem zit (s:ByteArray) (hs:s.size<=140737488355328) (w:World) :
  Calls prog 96 #[.string s] w fun e w'=>e=.returned (.tuple #[.int .i64 (Num.parse s.data.toList).1,.int .i64 (Num.parse s.data.toList).2.1,.bool (Num.parse s.data.toList).2.2])∧Below w.heap.size w w':=by
 have hl:s.data.toList.length=s.size:=rfl
 by_cases h0:0<s.size
 ·have hg:s.data.toList[0]?=some s[0]:=by rw[List.getElem?_eq_getElem (by rw[hl];exact h0)];rfl
  cases hc:s.data.toList with
  | nil=>rw[hc] at hg;cases hg
  | cons b r=>
   rw[hc] at hg
   simp only[List.getElem?_cons_zero,Option.some.injEq] at hg
   by_cases hb:b=45
   ·have h45:((s[0].toNat:Int)==45)=true:=by rw[<-hg,hb];decide
    have hx:(s.extract 1 s.size).data.toList=r:=by
     rw[zbl,<-hl,List.take_length,hc];rfl
    refine zh5 s _ _ hs h0 h45 rfl (by simp;omega) ?_ w
    rw[hx,hb];rfl
   ·have h45:((s[0].toNat:Int)==45)=false:=by
     rw[<-hg]
     simp only[beq_eq_false_iff_ne,ne_eq]
     intro h
     apply hb
     apply UInt8.toNat_inj.1
     show b.toNat=45
     omega
    refine ziN s _ _ hs h0 h45 rfl hs ?_ w
    rw[hc]
    unfold Num.parse
    split
    ·rename_i h;simp only[List.cons.injEq] at h;exact absurd h.1 hb
    ·rfl
 ·refine zgj s _ _ hs (by omega) rfl hs ?_ w
  have:s.data.toList=[]:=List.length_eq_zero_iff.1 (by rw[hl];omega)
  rw[this];rfl
end
end Go.Proofs.YtnbjhmafnigefaaGreatDoor
