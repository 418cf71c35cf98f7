/-
  What the proofs lean on: Parses, Prims.
-/
import Derived.WalkSpells
import Derived.Deep.WholeRow
import Derived.Laws.Rows
import Derived.Laws.ResultCell
import Derived.Test.YtgbibibmpoekiaaGreatDoorShfA03
import Derived.Test.YtgbibibmpoekiaaGreatDoorShfA04
set_option maxRecDepth 100000
set_option maxHeartbeats 16000000
namespace Go.Proofs.YtgbibibmpoekiaaGreatDoor
section
open Go.RowKit
theorem ret_string {l m:List UInt8} (h:l=m):Ending.returned (.string ⟨l.toArray⟩)=.returned (.string ⟨m.toArray⟩):=by rw[h]
theorem text_any (n d:Int) (h0:-9223372036854775808≤n) (h1:n≤9223372036854775807) (h2:-9223372036854775808≤d) (h3:d≤9223372036854775807) (w:World) (hE:Env w) :
  Calls Tryz.prog 113 #[.int .i64 n,.int .i64 d] w fun e w'=>e=.returned (.string ⟨(Num.text n d).toArray⟩)∧Below w.heap.size w w':=by
 cases hr:Num.right n d
 ·have HK:=Lib.hid (show Num.text n d=[] by simp[Num.text,hr])
  have HR:=Lib.hid hr
  go_enter Tryz.func113,Tryz.ntmps113
  go_wp2_with (first | (go_at_call 108;refine (right_to n d false HR.out (by omega) (by omega) (by omega) (by omega) _).mono ?_;rintro e' w1 ⟨rfl,k,rfl⟩))
  go_ret
  exact ⟨ret_string (l:=[]) HK.out.symm,Below.selfN _ _⟩
 have HR:=Lib.hid hr
 by_cases hd:d=1
 ·subst hd
  have HK:=Lib.hid (show Num.text n 1=Lib.itoa n by simp[Num.text,hr])
  clear hr
  go_enter Tryz.func113,Tryz.ntmps113
  go_wp2_with (first | (go_at_call 108;refine (right_to n 1 true HR.out (by omega) (by omega) (by omega) (by omega) _).mono ?_;rintro e' w1 ⟨rfl,k,rfl⟩) | (go_at_call 139;refine (itoa_any n (by omega) (by omega) _ (Env.drewN hE _)).mono ?_;rintro e' w1 ⟨rfl,hb⟩))
  go_ret
  exact ⟨ret_string HK.out.symm,Below.ofN hb⟩
 ·have hd1:(d==1)=false:=by simpa using hd
  have HK:=Lib.hid (show Num.text n d=Lib.itoa n++47::Lib.itoa d by simp[Num.text,hr,hd])
  clear hr
  have l1:=Lib.itoa_length_le n (by omega) (by omega)
  have l2:=Lib.itoa_length_le d (by omega) (by omega)
  go_enter Tryz.func113,Tryz.ntmps113
  go_wp2_with (first | (go_at_call 108;refine (right_to n d true HR.out (by omega) (by omega) (by omega) (by omega) _).mono ?_;rintro e' w1 ⟨rfl,k,rfl⟩) | (go_at_call 139;with_reducible refine (itoa_any n (by omega) (by omega) _ (Env.drewN hE _)).mono ?_;rintro e' w1 ⟨rfl,hb⟩) | (go_at_call 139;with_reducible refine (itoa_any d (by omega) (by omega) _ (Env.below (Env.drewN hE _) (by assumption))).mono ?_;rintro e' w2 ⟨rfl,hb2⟩))
  go_ret
  refine ⟨?_,Below.next (Below.ofN hb) hb2⟩
  rw[HK.out]
  show Ending.returned (.string ((⟨(Lib.itoa n).toArray⟩++⟨[47].toArray⟩)++⟨(Lib.itoa d).toArray⟩))=_
  rw[str_app,str_app]
  simp
end
section
open Go.RowKit
namespace Num
def digs:List UInt8:=[48,49,50,51,52,53,54,55,56,57]
theorem digs_iff (b:UInt8):digs.contains b=isDigit b:=by
 have:∀k:Fin 256,digs.contains (UInt8.ofNat k.val)=isDigit (UInt8.ofNat k.val):=by decide +kernel
 have e:b=UInt8.ofNat b.toNat:=by simp
 rw[e]
 exact this ⟨b.toNat,b.toNat_lt⟩
theorem dropWhile_nil {α:Type} (p:α→Bool) (l:List α):l.dropWhile p=[]↔∀b∈l,p b=true:=by
 induction l with
 | nil=>simp
 | cons c l ih=>
  simp only[List.dropWhile_cons,List.mem_cons,forall_eq_or_imp]
  split
  ·rename_i h;simp[h,ih]
  ·rename_i h;simp[h]
theorem mem_dropWhile {α:Type} {p:α→Bool} {l:List α} {b:α} (h:b∈l) (hb:p b=false):b∈l.dropWhile p:=by
 induction l with
 | nil=>cases h
 | cons c l ih=>
  rw[List.dropWhile_cons]
  split
  ·rename_i hc
   rcases List.mem_cons.1 h with rfl | h
   ·rw[hb] at hc;cases hc
   ·exact ih h
  ·exact h
theorem trimS_nil (l cs:List UInt8):Lib.trimS l cs=[]↔∀b∈l,cs.contains b=true:=by
 unfold Lib.trimS Lib.trimLeftS Lib.trimRightS
 rw[dropWhile_nil]
 constructor
 ·intro h b hb
  cases hc:cs.contains b with
  | true=>rfl
  | false=>
   have h1:b∈l.reverse.dropWhile (cs.contains ·):=mem_dropWhile (by simpa using hb) hc
   have:=h b (by simpa using h1)
   rw[hc] at this;exact this
 ·intro h b hb
  have h1:b∈l.reverse.dropWhile (cs.contains ·):=by simpa using hb
  have:b∈l.reverse:=(List.dropWhile_sublist _).mem h1
  exact h b (by simpa using this)
theorem digitVal_some {b:UInt8} (h:isDigit b=true):Lib.digitVal b=some (b.toNat-48):=by
 simp only[isDigit,Bool.and_eq_true,decide_eq_true_eq] at h
 unfold Lib.digitVal;rw[if_pos h]
theorem digitVal_none {b:UInt8} (h:isDigit b=false):Lib.digitVal b=none:=by
 unfold Lib.digitVal
 rw[if_neg]
 intro hc
 simp[isDigit,hc] at h
theorem decFrom_digits:∀(l:List UInt8) (acc:Nat),(∀b∈l,isDigit b=true)→∃m,Lib.decFrom acc l=some m
 | [],acc,_=>⟨acc,rfl⟩
 | c::l,acc,h=>by
  simp only[Lib.decFrom,digitVal_some (h c (by simp))]
  exact decFrom_digits l _ (fun b hb=>h b (by simp[hb]))
theorem decFrom_none:∀(l:List UInt8) (acc:Nat),(∃b∈l,isDigit b=false)→Lib.decFrom acc l=none
 | [],acc,h=>by obtain ⟨b,hb,_⟩:=h;cases hb
 | c::l,acc,h=>by
  obtain ⟨b,hb,hd⟩:=h
  simp only[Lib.decFrom]
  cases hc:isDigit c with
  | false=>rw[digitVal_none hc]
  | true=>
   rw[digitVal_some hc]
   refine decFrom_none l _ ⟨b,?_,hd⟩
   rcases List.mem_cons.1 hb with rfl | hb
   ·rw[hc] at hd;cases hd
   ·exact hb
theorem nat?_cases (l:List UInt8):(nat? l=none∧(l.length=0∨10<l.length∨(l.length≤10∧Lib.trimS l digs≠[]))) ∨
  (∃m:Nat,nat? l=some m∧l.length≠0∧l.length≤10∧Lib.trimS l digs=[]∧Lib.atoi l=some (m:Int)∧m<10000000000):=by
 by_cases h0:l.length=0
 ·left
  refine ⟨?_,.inl h0⟩
  have:l=[]:=List.length_eq_zero_iff.1 h0
  subst this;rfl
 by_cases h1:10<l.length
 ·left
  exact ⟨by unfold nat?;rw[if_neg (by omega)],.inr (.inl h1)⟩
 by_cases h2:Lib.trimS l digs=[]
 ·right
  have hd:∀b∈l,isDigit b=true:=fun b hb=>by rw[←digs_iff];exact (trimS_nil _ _).1 h2 b hb
  obtain ⟨m,hm⟩:=decFrom_digits l 0 hd
  have hn:Lib.decNat l=some m:=by
   unfold Lib.decNat
   rw[if_neg (by simpa using fun e:l=[]=>h0 (by rw[e];rfl)),hm]
  refine ⟨m,by unfold nat?;rw[if_pos (by omega),hn],h0,by omega,h2,?_,?_⟩
  ·match l,h0 with
   | c::r,_=>
    have hc:=hd c (by simp)
    simp only[isDigit,Bool.and_eq_true,decide_eq_true_eq] at hc
    simp only[Lib.atoi]
    rw[if_neg (by simp only[beq_iff_eq];rintro rfl;simp at hc),if_neg (by simp only[beq_iff_eq];rintro rfl;simp at hc),hn]
    rfl
  ·have:=Lib.decFrom_lt l 0 m hm
   have hp:10 ^ l.length≤10 ^ 10:=Nat.pow_le_pow_right (by omega) (by omega)
   omega
 ·left
  refine ⟨?_,.inr (.inr ⟨by omega,h2⟩)⟩
  have:∃b∈l,isDigit b=false:=by
   apply Decidable.byContradiction
   intro hc
   apply h2
   rw[trimS_nil]
   intro b hb
   rw[digs_iff]
   cases hd:isDigit b with
   | true=>rfl
   | false=>exact absurd ⟨b,hb,hd⟩ hc
  unfold nat?
  split
  ·unfold Lib.decNat
   split
   ·rfl
   ·exact decFrom_none l 0 this
  ·rfl
end Num
theorem trim_to (s:ByteArray) (T:List UInt8) (hs:s.size≤9223372036854775807) (hT:Lib.trimS s.data.toList Num.digs=T) (w:World) :
  Calls Tryz.prog 135 #[.string s,.string ⟨#[48,49,50,51,52,53,54,55,56,57]⟩] w fun e w'=>e=.returned (.string ⟨T.toArray⟩)∧Below w.heap.size w w':=by
 have:=trim_any s ⟨#[48,49,50,51,52,53,54,55,56,57]⟩ hs (by decide) (by decide) w
 rw[show (⟨#[48,49,50,51,52,53,54,55,56,57]⟩:ByteArray).data.toList=Num.digs from rfl,hT] at this
 exact this
theorem natural_any (s:ByteArray) (hs:s.size≤9223372036854775807) (w:World) :
  Calls Tryz.prog 163 #[.string s] w fun e w'=>e=.returned (.tuple #[.int .i64 (((Num.nat? s.data.toList).getD 0:Nat):Int),.bool (Num.nat? s.data.toList).isSome])∧Below w.heap.size w w':=by
 have hl:s.data.toList.length=s.size:=rfl
 rcases Num.nat?_cases s.data.toList with ⟨hn,h⟩ | ⟨m,hn,h0,h1,h2,h3,h4⟩
 ·have HN:=Lib.hid hn
  rw[hl] at h
  clear hl hn
  rcases h with h | h | ⟨h,ht⟩
  ·go_enter Tryz.func163,Tryz.ntmps163
   go_wp2
   go_ret2
   exact ⟨by rw[HN.out];rfl,Below.self _⟩
  ·have hz:((s.size:Int)==0)=false:=by simp;rintro rfl;simp at h
   have hne:¬s=ByteArray.empty:=by rintro rfl;simp at h
   go_enter Tryz.func163,Tryz.ntmps163
   go_wp2
   go_ret2
   exact ⟨by rw[HN.out];rfl,Below.self _⟩
  ·by_cases h0:s.size=0
   ·go_enter Tryz.func163,Tryz.ntmps163
    go_wp2
    go_ret2
    exact ⟨by rw[HN.out];rfl,Below.self _⟩
   have hne:¬s=ByteArray.empty:=by rintro rfl;simp at h0
   have hz:((s.size:Int)==0)=false:=by simpa using hne
   obtain ⟨T,hT⟩:∃T,Lib.trimS s.data.toList Num.digs=T:=⟨_,rfl⟩
   rw[hT] at ht
   have HT:=Lib.hid hT
   clear hT
   have he:T.isEmpty=false:=by simpa using ht
   go_enter Tryz.func163,Tryz.ntmps163
   go_wp2_with (first | (go_at_call 135;refine (trim_to s T hs HT.out _).mono ?_;rintro e' w1 ⟨rfl,hb⟩))
   go_ret2
   exact ⟨by rw[HN.out];rfl,hb⟩
 ·have HN:=Lib.hid hn
  have H2:=Lib.hid h2
  have H3:=Lib.hid h3
  rw[hl] at h0 h1
  have hne:¬s=ByteArray.empty:=by rintro rfl;simp at h0
  have hz:((s.size:Int)==0)=false:=by simpa using hne
  clear hl hn h2 h3
  go_enter Tryz.func163,Tryz.ntmps163
  go_wp2_with (first | (go_at_call 135;refine (trim_to s [] hs H2.out _).mono ?_;rintro e' w1 ⟨rfl,hb⟩) | (go_at_call 180;refine (atoi_any s m (by omega) H3.out _).mono ?_;rintro e' w2 ⟨rfl,hb2⟩))
  go_quiet (fail)
  go_wp2
  go_ret2
  exact ⟨by rw[HN.out];rfl,Below.drewN (Below.next hb hb2) _⟩
end
section
open Go.RowKit
namespace Num
theorem indexByte_slash (l:List UInt8):(Lib.indexByte l 47 = -1∧l.takeWhile noSlash=l∧l.dropWhile noSlash=[]) ∨
  (∃i:Nat,Lib.indexByte l 47=i∧i<l.length∧l.takeWhile noSlash=l.take i∧l.dropWhile noSlash=47::l.drop (i+1)):=by
 induction l with
 | nil=>left;exact ⟨rfl,rfl,rfl⟩
 | cons b l ih=>
  by_cases hb:b=47
  ·subst hb
   right
   exact ⟨0,by simp[Lib.indexByte],by simp,by simp[noSlash],by simp[noSlash]⟩
  ·have hn:noSlash b=true:=by simpa[noSlash] using hb
   have hb0:(b==47)=false:=by simpa using hb
   rcases ih with ⟨h1,h2,h3⟩ | ⟨i,h1,h2,h3,h4⟩
   ·left
    refine ⟨by simp[Lib.indexByte,hb0,h1],by simp[hn,h2],by simp[hn,h3]⟩
   ·right
    refine ⟨i+1,?_,by simp;omega,by simp[hn,h3],by simp[hn,h4]⟩
    have hne:((i:Int) == -1)=false:=by simp
    simp only[Lib.indexByte,hb0,h1,hne]
    simp
end Num
theorem extract_list (s:ByteArray) (a b:Nat):s.extract a b=⟨((s.data.toList.take b).drop a).toArray⟩:=by
 apply ByteArray.ext
 rw[ByteArray.data_extract]
 apply Array.ext'
 simp[Array.toList_extract,List.extract_eq_take_drop,List.drop_take]
theorem str_self (s:ByteArray):(⟨s.data.toList.toArray⟩:ByteArray)=s:=by
 obtain ⟨⟨l⟩⟩:=s;rfl
theorem ret_cut {a b a' b':ByteArray} {c c':Bool} (h1:a=a') (h2:b=b') (h3:c=c'):Ending.returned (.tuple #[.string a,.string b,.bool c])=.returned (.tuple #[.string a',.string b',.bool c']):=by
 rw[h1,h2,h3]
theorem cutlite_any (s:ByteArray) (hs:s.size≤9223372036854775807) (w:World) :
  Calls Tryz.prog 179 #[.string s,.string ⟨#[47]⟩] w fun e w'=>e=.returned (.tuple #[.string ⟨(s.data.toList.takeWhile Num.noSlash).toArray⟩,.string ⟨((s.data.toList.dropWhile Num.noSlash).tail).toArray⟩,.bool (!(s.data.toList.dropWhile Num.noSlash).isEmpty)])∧Below w.heap.size w w':=by
 have hl:s.data.toList.length=s.size:=rfl
 have hI:=Tryz.stringslite_Index_one s 47
 rcases Num.indexByte_slash s.data.toList with ⟨h1,h2,h3⟩ | ⟨i,h1,h2,h3,h4⟩
 ·rw[h1] at hI
  have HI:=Lib.hid hI
  rw[h2,h3]
  clear hI h1 h2 h3
  go_enter Tryz.func179,Tryz.ntmps179
  go_wp2_with (first | (go_at_call 187;refine (HI.out _).mono ?_;rintro e' w1 ⟨rfl,rfl⟩))
  go_ret3
  exact ⟨ret_cut (str_self s).symm rfl rfl,Below.self _⟩
 ·rw[h1] at hI
  have HI:=Lib.hid hI
  rw[h3,h4]
  rw[hl] at h2
  clear hI h1 h3 h4
  go_enter Tryz.func179,Tryz.ntmps179
  go_wp2_with (first | (go_at_call 187;refine (HI.out _).mono ?_;rintro e' w1 ⟨rfl,rfl⟩))
  go_quiet (fail)
  go_wp2
  go_ret3
  exact ⟨ret_cut (by rw[extract_list];simp) (by rw[extract_list,←hl,List.take_length];rfl) rfl,Below.selfN _ _⟩
theorem cut_any (s:ByteArray) (hs:s.size≤9223372036854775807) (w:World) :
  Calls Tryz.prog 162 #[.string s,.string ⟨#[47]⟩] w fun e w'=>e=.returned (.tuple #[.string ⟨(s.data.toList.takeWhile Num.noSlash).toArray⟩,.string ⟨((s.data.toList.dropWhile Num.noSlash).tail).toArray⟩,.bool (!(s.data.toList.dropWhile Num.noSlash).isEmpty)])∧Below w.heap.size w w':=by
 obtain ⟨A,hA⟩:∃A,s.data.toList.takeWhile Num.noSlash=A:=⟨_,rfl⟩
 obtain ⟨B,hB⟩:∃B,(s.data.toList.dropWhile Num.noSlash).tail=B:=⟨_,rfl⟩
 obtain ⟨c,hc⟩:∃c,(!(s.data.toList.dropWhile Num.noSlash).isEmpty)=c:=⟨_,rfl⟩
 have hI:=cutlite_any s hs w
 rw[hA,hB,hc] at hI ⊢
 have HI:=Lib.hid hI
 clear hI hA hB hc
 go_enter Tryz.func162,Tryz.ntmps162
 go_wp2_with (first | (go_at_call 179;refine HI.out.mono ?_;rintro e' w1 ⟨rfl,hb⟩))
 go_ret3
 exact ⟨rfl,hb⟩
theorem cut_to (l A B:List UInt8) (c:Bool) (hA:l.takeWhile Num.noSlash=A) (hB:(l.dropWhile Num.noSlash).tail=B) (hc:(!(l.dropWhile Num.noSlash).isEmpty)=c) (hs:l.length≤9223372036854775807) (w:World) :
  Calls Tryz.prog 162 #[.string ⟨l.toArray⟩,.string ⟨#[47]⟩] w fun e w'=>e=.returned (.tuple #[.string ⟨A.toArray⟩,.string ⟨B.toArray⟩,.bool c])∧Below w.heap.size w w':=by
 have:=cut_any ⟨l.toArray⟩ (by simpa[ByteArray.size] using hs) w
 simp only[hA,hB,hc] at this
 exact this
theorem natural_to (l:List UInt8) (o:Option Nat) (ho:Num.nat? l=o) (hs:l.length≤9223372036854775807) (w:World) :
  Calls Tryz.prog 163 #[.string ⟨l.toArray⟩] w fun e w'=>e=.returned (.tuple #[.int .i64 ((o.getD 0:Nat):Int),.bool o.isSome])∧Below w.heap.size w w':=by
 have:=natural_any ⟨l.toArray⟩ (by simpa[ByteArray.size] using hs) w
 simp only[ho] at this
 exact this
theorem cutPrefix_to (s:ByteArray) (l:List UInt8) (neg:Bool) (h1:Lib.trimPrefix s.data.toList [45]=l) (h2:Lib.hasPrefix s.data.toList [45]=neg) (w:World) :
  Calls Tryz.prog 161 #[.string s,.string ⟨#[45]⟩] w fun e w'=>e=.returned (.tuple #[.string ⟨l.toArray⟩,.bool neg])∧Below w.heap.size w w':=by
 refine (Tryz.strings_CutPrefix s ⟨#[45]⟩ w).mono ?_
 rintro e w' ⟨rfl,rfl⟩
 rw[show (⟨#[45]⟩:ByteArray).data.toList=[45] from rfl,h1,h2]
 exact ⟨rfl,Below.self _⟩
namespace Num
theorem nat?_lt {l:List UInt8} {m:Nat} (h:nat? l=some m):m<10000000000:=by
 rcases nat?_cases l with ⟨h1,_⟩ | ⟨k,h1,_,_,_,_,h2⟩
 ·rw[h1] at h;cases h
 ·rw[h1] at h;cases h;exact h2
theorem parse_cases (l:List UInt8):∃(neg:Bool) (r:List UInt8),Lib.trimPrefix l [45]=r∧Lib.hasPrefix l [45]=neg∧parse l=parseU neg r∧r.length≤l.length:=by
 cases l with
 | nil=>exact ⟨false,[],rfl,rfl,rfl,Nat.le_refl _⟩
 | cons b r=>
  by_cases hb:b=45
  ·subst hb
   exact ⟨true,r,by simp[Lib.trimPrefix,Lib.hasPrefix],by simp[Lib.hasPrefix],rfl,by simp⟩
  ·have hb0:((45:UInt8)==b)=false:=by simpa using fun h:(45:UInt8)=b=>hb h.symm
   have hp:Lib.hasPrefix (b::r) [45]=false:=by
    unfold Lib.hasPrefix
    simp only[List.isPrefixOf,hb0,Bool.false_and]
   refine ⟨false,b::r,by unfold Lib.trimPrefix;rw[hp];rfl,hp,?_,Nat.le_refl _⟩
   unfold parse
   split
   ·rename_i h;simp only[List.cons.injEq] at h;exact absurd h.1 hb
   ·rfl
theorem parseU_cases (neg:Bool) (r:List UInt8):∃(A B C:List UInt8) (c:Bool) (oA oC:Option Nat),r.takeWhile noSlash=A∧(r.dropWhile noSlash).tail=B∧(!(r.dropWhile noSlash).isEmpty)=c ∧
  C=(if c=true then B else [49])∧nat? A=oA∧nat? C=oC∧A.length≤r.length∧C.length≤r.length+1 ∧
  parseU neg r=(match oA,oC with
   | some n,some d=>((mk (if neg then -(n:Int) else n) d).1,(mk (if neg then -(n:Int) else n) d).2.1,decide ((mk (if neg then -(n:Int) else n) d).2.2=0))
   | _,_=>(0,0,false)):=by
 refine ⟨_,_,_,_,_,_,rfl,rfl,rfl,rfl,rfl,rfl,(List.takeWhile_sublist _).length_le,?_,?_⟩
 ·split
  ·have:=(List.dropWhile_sublist noSlash (l:=r)).length_le
   simp only[List.length_tail];omega
  ·simp
 ·unfold parseU lower
  cases r.dropWhile noSlash<;>rfl
end Num
theorem ret_parse {a b:Int} {p q:Bool} {P:Int × Int × Bool} (h:P=(a,b,q)) (h':p=q):Ending.returned (.tuple #[.int .i64 a,.int .i64 b,.bool p])=.returned (.tuple #[.int .i64 P.1,.int .i64 P.2.1,.bool P.2.2]):=by
 rw[h,h']
theorem parse_any (s:ByteArray) (hs:s.size≤9223372036854775806) (w:World) :
  Calls Tryz.prog 137 #[.string s] w fun e w'=>e=.returned (.tuple #[.int .i64 (Num.parse s.data.toList).1,.int .i64 (Num.parse s.data.toList).2.1,.bool (Num.parse s.data.toList).2.2])∧Below w.heap.size w w':=by
 have hl:s.data.toList.length=s.size:=rfl
 obtain ⟨neg,r,h1,h2,h3,h4⟩:=Num.parse_cases s.data.toList
 obtain ⟨A,B,C,c,oA,oC,k1,k2,k3,k4,k5,k6,k7,k8,k9⟩:=Num.parseU_cases neg r
 rw[hl] at h4
 rw[k9] at h3
 have H1:=Lib.hid h1
 have H2:=Lib.hid h2
 have K1:=Lib.hid k1
 have K2:=Lib.hid k2
 have K3:=Lib.hid k3
 have K5:=Lib.hid k5
 have K6:=Lib.hid k6
 have HP:=Lib.hid h3
 clear hl h1 h2 h3 k9 k1 k2 k3
 have e0:s.size≤9223372036854775807:=by omega
 cases oA with
 | none=>
  cases c
  ·simp only[Bool.false_eq_true,if_false] at k4
   first | (have k4:=k4.symm;subst k4;have _u:=B) | subst k4
   go_enter Tryz.func137,Tryz.ntmps137
   go_wp2_with (first | (go_at_call 161;refine (cutPrefix_to s r _ H1.out H2.out _).mono ?_;rintro e' w1 ⟨rfl,hb⟩) | (go_at_call 162;refine (cut_to r A B _ K1.out K2.out K3.out (by omega) _).mono ?_;rintro e' w2 ⟨rfl,hb'⟩;have hb2:=Below.next hb hb';clear hb') | (go_at_call 163;((with_reducible refine (natural_to A _ K5.out (by omega) _).mono ?_);rintro e' w3 ⟨rfl,hb'⟩;have hb3:=Below.next hb2 hb';clear hb')) | (go_at_call 163;((with_reducible refine (natural_to [49] _ K6.out (by first | omega | (simp only[List.length_cons,List.length_nil];omega)) _).mono ?_);rintro e' w4 ⟨rfl,hb'⟩;have hb4:=Below.next hb3 hb';clear hb')))
   all_goals go_ret3
   all_goals exact ⟨ret_parse HP.out rfl,by assumption⟩
  ·simp only[if_true] at k4
   first | (have k4:=k4.symm;subst k4;have _u:=B) | subst k4
   go_enter Tryz.func137,Tryz.ntmps137
   go_wp2_with (first | (go_at_call 161;refine (cutPrefix_to s r _ H1.out H2.out _).mono ?_;rintro e' w1 ⟨rfl,hb⟩) | (go_at_call 162;refine (cut_to r A B _ K1.out K2.out K3.out (by omega) _).mono ?_;rintro e' w2 ⟨rfl,hb'⟩;have hb2:=Below.next hb hb';clear hb') | (go_at_call 163;((with_reducible refine (natural_to A _ K5.out (by omega) _).mono ?_);rintro e' w3 ⟨rfl,hb'⟩;have hb3:=Below.next hb2 hb';clear hb')) | (go_at_call 163;((with_reducible refine (natural_to B _ K6.out (by first | omega | (simp only[List.length_cons,List.length_nil];omega)) _).mono ?_);rintro e' w4 ⟨rfl,hb'⟩;have hb4:=Below.next hb3 hb';clear hb')))
   all_goals go_ret3
   all_goals exact ⟨ret_parse HP.out rfl,by assumption⟩
 | some n=>
  have hn:=Num.nat?_lt k5
  cases oC with
  | none=>
   cases c
   ·simp only[Bool.false_eq_true,if_false] at k4
    first | (have k4:=k4.symm;subst k4;have _u:=B) | subst k4
    go_enter Tryz.func137,Tryz.ntmps137
    go_wp2_with (first | (go_at_call 161;refine (cutPrefix_to s r _ H1.out H2.out _).mono ?_;rintro e' w1 ⟨rfl,hb⟩) | (go_at_call 162;refine (cut_to r A B _ K1.out K2.out K3.out (by omega) _).mono ?_;rintro e' w2 ⟨rfl,hb'⟩;have hb2:=Below.next hb hb';clear hb') | (go_at_call 163;((with_reducible refine (natural_to A _ K5.out (by omega) _).mono ?_);rintro e' w3 ⟨rfl,hb'⟩;have hb3:=Below.next hb2 hb';clear hb')) | (go_at_call 163;((with_reducible refine (natural_to [49] _ K6.out (by first | omega | (simp only[List.length_cons,List.length_nil];omega)) _).mono ?_);rintro e' w4 ⟨rfl,hb'⟩;have hb4:=Below.next hb3 hb';clear hb')))
    all_goals go_ret3
    all_goals exact ⟨ret_parse HP.out rfl,by assumption⟩
   ·simp only[if_true] at k4
    first | (have k4:=k4.symm;subst k4;have _u:=B) | subst k4
    go_enter Tryz.func137,Tryz.ntmps137
    go_wp2_with (first | (go_at_call 161;refine (cutPrefix_to s r _ H1.out H2.out _).mono ?_;rintro e' w1 ⟨rfl,hb⟩) | (go_at_call 162;refine (cut_to r A B _ K1.out K2.out K3.out (by omega) _).mono ?_;rintro e' w2 ⟨rfl,hb'⟩;have hb2:=Below.next hb hb';clear hb') | (go_at_call 163;((with_reducible refine (natural_to A _ K5.out (by omega) _).mono ?_);rintro e' w3 ⟨rfl,hb'⟩;have hb3:=Below.next hb2 hb';clear hb')) | (go_at_call 163;((with_reducible refine (natural_to B _ K6.out (by first | omega | (simp only[List.length_cons,List.length_nil];omega)) _).mono ?_);rintro e' w4 ⟨rfl,hb'⟩;have hb4:=Below.next hb3 hb';clear hb')))
    all_goals go_ret3
    all_goals exact ⟨ret_parse HP.out rfl,by assumption⟩
  | some d=>
   have hd:=Num.nat?_lt k6
   cases neg with
   | true=>
    obtain ⟨x,y,z,hm⟩:∃x y z,Num.mk (-(n:Int)) d=(x,y,z):=⟨_,_,_,rfl⟩
    have HM:=Lib.hid hm
    have HF:=Lib.hid (show Num.parse s.data.toList=(x,y,decide (z=0)) by rw[HP.out];simp[hm])
    clear hm
    cases c
    ·simp only[Bool.false_eq_true,if_false] at k4
     first | (have k4:=k4.symm;subst k4;have _u:=B) | subst k4
     go_enter Tryz.func137,Tryz.ntmps137
     go_wp2_with (first | (go_at_call 161;refine (cutPrefix_to s r _ H1.out H2.out _).mono ?_;rintro e' w1 ⟨rfl,hb⟩) | (go_at_call 162;refine (cut_to r A B _ K1.out K2.out K3.out (by omega) _).mono ?_;rintro e' w2 ⟨rfl,hb'⟩;have hb2:=Below.next hb hb';clear hb') | (go_at_call 163;((with_reducible refine (natural_to A _ K5.out (by omega) _).mono ?_);rintro e' w3 ⟨rfl,hb'⟩;have hb3:=Below.next hb2 hb';clear hb')) | (go_at_call 163;((with_reducible refine (natural_to [49] _ K6.out (by first | omega | (simp only[List.length_cons,List.length_nil];omega)) _).mono ?_);rintro e' w4 ⟨rfl,hb'⟩;have hb4:=Below.next hb3 hb';clear hb')) | (go_at_call 164;refine (make_to (-(n:Int)) d x y z HM.out (by omega) (by omega) (by omega) (by omega) _).mono ?_;rintro e' w5 ⟨rfl,k,rfl⟩))
     go_ret3
     exact ⟨ret_parse HF.out (by first | rfl | simp),Below.drewN hb4 _⟩
    ·simp only[if_true] at k4
     first | (have k4:=k4.symm;subst k4;have _u:=B) | subst k4
     go_enter Tryz.func137,Tryz.ntmps137
     go_wp2_with (first | (go_at_call 161;refine (cutPrefix_to s r _ H1.out H2.out _).mono ?_;rintro e' w1 ⟨rfl,hb⟩) | (go_at_call 162;refine (cut_to r A B _ K1.out K2.out K3.out (by omega) _).mono ?_;rintro e' w2 ⟨rfl,hb'⟩;have hb2:=Below.next hb hb';clear hb') | (go_at_call 163;((with_reducible refine (natural_to A _ K5.out (by omega) _).mono ?_);rintro e' w3 ⟨rfl,hb'⟩;have hb3:=Below.next hb2 hb';clear hb')) | (go_at_call 163;((with_reducible refine (natural_to B _ K6.out (by first | omega | (simp only[List.length_cons,List.length_nil];omega)) _).mono ?_);rintro e' w4 ⟨rfl,hb'⟩;have hb4:=Below.next hb3 hb';clear hb')) | (go_at_call 164;refine (make_to (-(n:Int)) d x y z HM.out (by omega) (by omega) (by omega) (by omega) _).mono ?_;rintro e' w5 ⟨rfl,k,rfl⟩))
     go_ret3
     exact ⟨ret_parse HF.out (by first | rfl | simp),Below.drewN hb4 _⟩
   | false=>
    obtain ⟨x,y,z,hm⟩:∃x y z,Num.mk (n:Int) d=(x,y,z):=⟨_,_,_,rfl⟩
    have HM:=Lib.hid hm
    have HF:=Lib.hid (show Num.parse s.data.toList=(x,y,decide (z=0)) by rw[HP.out];simp[hm])
    clear hm
    cases c
    ·simp only[Bool.false_eq_true,if_false] at k4
     first | (have k4:=k4.symm;subst k4;have _u:=B) | subst k4
     go_enter Tryz.func137,Tryz.ntmps137
     go_wp2_with (first | (go_at_call 161;refine (cutPrefix_to s r _ H1.out H2.out _).mono ?_;rintro e' w1 ⟨rfl,hb⟩) | (go_at_call 162;refine (cut_to r A B _ K1.out K2.out K3.out (by omega) _).mono ?_;rintro e' w2 ⟨rfl,hb'⟩;have hb2:=Below.next hb hb';clear hb') | (go_at_call 163;((with_reducible refine (natural_to A _ K5.out (by omega) _).mono ?_);rintro e' w3 ⟨rfl,hb'⟩;have hb3:=Below.next hb2 hb';clear hb')) | (go_at_call 163;((with_reducible refine (natural_to [49] _ K6.out (by first | omega | (simp only[List.length_cons,List.length_nil];omega)) _).mono ?_);rintro e' w4 ⟨rfl,hb'⟩;have hb4:=Below.next hb3 hb';clear hb')) | (go_at_call 164;refine (make_to (n:Int) d x y z HM.out (by omega) (by omega) (by omega) (by omega) _).mono ?_;rintro e' w5 ⟨rfl,k,rfl⟩))
     go_ret3
     exact ⟨ret_parse HF.out (by first | rfl | simp),Below.drewN hb4 _⟩
    ·simp only[if_true] at k4
     first | (have k4:=k4.symm;subst k4;have _u:=B) | subst k4
     go_enter Tryz.func137,Tryz.ntmps137
     go_wp2_with (first | (go_at_call 161;refine (cutPrefix_to s r _ H1.out H2.out _).mono ?_;rintro e' w1 ⟨rfl,hb⟩) | (go_at_call 162;refine (cut_to r A B _ K1.out K2.out K3.out (by omega) _).mono ?_;rintro e' w2 ⟨rfl,hb'⟩;have hb2:=Below.next hb hb';clear hb') | (go_at_call 163;((with_reducible refine (natural_to A _ K5.out (by omega) _).mono ?_);rintro e' w3 ⟨rfl,hb'⟩;have hb3:=Below.next hb2 hb';clear hb')) | (go_at_call 163;((with_reducible refine (natural_to B _ K6.out (by first | omega | (simp only[List.length_cons,List.length_nil];omega)) _).mono ?_);rintro e' w4 ⟨rfl,hb'⟩;have hb4:=Below.next hb3 hb';clear hb')) | (go_at_call 164;refine (make_to (n:Int) d x y z HM.out (by omega) (by omega) (by omega) (by omega) _).mono ?_;rintro e' w5 ⟨rfl,k,rfl⟩))
     go_ret3
     exact ⟨ret_parse HF.out (by first | rfl | simp),Below.drewN hb4 _⟩
end
section
open Go.RowKit
def factC (f:Fact):List Value:=[.string f.name,.int .i64 f.least,.int .i64 f.most,.bool f.pure,.bool f.folds]
def factV (f:Fact):Value:=.agg (factC f).toArray
def tableC:List Value:=Prims.table.flatMap factC
def tableA:Array Value:=tableC.toArray
theorem tableA_size:tableA.size=155:=by kernel_rfl
theorem tableA_one:tableA.all (·.oneCell')=true:=by kernel_rfl
theorem table_any (w:World):Calls Tryz.prog 111 #[] w fun e w'=>e=.returned (.agg tableA)∧Below w.heap.size w w':=by
 go_enter Tryz.func111,Tryz.ntmps111
 go_wp2_with fail
 generalize hL:List.set _ 154 (Value.bool false)=V
 have hV:V=tableA.toList:=by rw[←hL];kernel_rfl
 subst hV
 clear hL
 have hst:=run_storeCells_new (P:=Tryz.prog) w 133 Tryz.zeroCells133 tableA (by kernel_rfl) (by rw[tableA_size];exact Tryz.zeroCells133_size) tableA_one
 rw[hst]
 simp only[Result.andThen]
 rw[Oper.upon_skip]
 generalize Value.agg (Array.setIfInBounds _ 154 (Value.bool false))=X
 have hld:=run_loadVar_new (P:=Tryz.prog) w 133 tableA 31 114 Tryz.underlying133 (by rw[tableA_size];kernel_rfl)
 go_wp2
 refine bodyPost_ret (v:=.agg tableA) ?_ rfl ⟨rfl,(Below.refl _ _).alloc (Nat.le_refl _) _⟩
 exact results_cell_row rfl _ _ w.heap.size 133 tableA (0,0) _ rfl (heap_alloc_last w _) Tryz.underlying133 rfl (by rw[tableA_size];kernel_rfl)
end
end Go.Proofs.YtgbibibmpoekiaaGreatDoor
