/-
  What the proofs lean on: Plain.
-/
import Derived.Lib.ItoaNum
import Derived.Lib.Atoi
import Derived.Lib.AtoiAll
import Derived.Lib.SlTrimSet
set_option maxRecDepth 100000
set_option maxHeartbeats 16000000
namespace Go.Proofs.YtgbibibmpoekiaaGreatDoor
section
namespace Num
def mk (n d:Int):Int × Int × Int:=
 if d=0 then (0,0,4) else
 if 2147483647<n.natAbs / Int.gcd n d∨2147483647<d.natAbs / Int.gcd n d then (0,0,3) else
 if n<0↔d<0 then (((n.natAbs / Int.gcd n d:Nat):Int),((d.natAbs / Int.gcd n d:Nat):Int),0)
 else (-((n.natAbs / Int.gcd n d:Nat):Int),((d.natAbs / Int.gcd n d:Nat):Int),0)
def right (n d:Int):Bool:=
 decide (1≤d)&&(decide (d≤2147483647)&&(decide (-2147483647≤n)&&(decide (n≤2147483647)&&(Int.gcd n d==1))))
theorem right_iff (n d:Int):right n d=true↔1≤d∧d≤2147483647∧-2147483647≤n∧n≤2147483647∧Int.gcd n d=1:=by
 simp[right]
def add (n d m e:Int):Int × Int × Int:=if right n d&&right m e then mk (n*e+m*d) (d*e) else (0,0,3)
def sub (n d m e:Int):Int × Int × Int:=if right n d&&right m e then mk (n*e-m*d) (d*e) else (0,0,3)
def mul (n d m e:Int):Int × Int × Int:=if right n d&&right m e then mk (n*m) (d*e) else (0,0,3)
def div (n d m e:Int):Int × Int × Int:=if right n d&&right m e then mk (n*e) (d*m) else (0,0,3)
def less (n d m e:Int):Bool:=right n d&&right m e&&decide (n*e<m*d)
theorem mul_bd {a b:Int} (a0:-2147483647≤a) (a1:a≤2147483647) (b0:-2147483647≤b) (b1:b≤2147483647) :
  -4611686014132420609≤a*b∧a*b≤4611686014132420609:=by
 have h:(a*b).natAbs≤2147483647*2147483647:=by
  rw[Int.natAbs_mul]
  exact Nat.mul_le_mul (by omega) (by omega)
 omega
theorem gcd_ne {n d:Int} (hd:d≠0):Int.gcd n d≠0:=by
 intro h
 rw[Int.gcd_eq_zero_iff] at h
 exact hd h.2
end Num
end
section
namespace Num
def ofQ (q:Rat):Int × Int × Int:=if q.num.natAbs≤2147483647∧q.den≤2147483647 then (q.num,(q.den:Int),0) else (0,0,3)
theorem mk_eq {n d:Int} (hd:d≠0):mk n d=ofQ (Rat.divInt n d):=by
 have hg:Int.gcd n d≠0:=gcd_ne hd
 have hdn:Int.gcd n d ∣ n.natAbs:=Int.ofNat_dvd_left.1 (Int.gcd_dvd_left ..)
 have hnum:(Rat.divInt n d).num=if n<0↔d<0 then ((n.natAbs / Int.gcd n d:Nat):Int) else -((n.natAbs / Int.gcd n d:Nat):Int):=by
  rw[Rat.num_divInt,Int.gcd_comm d n]
  obtain ⟨k,hk⟩:=hdn
  have hk':n.natAbs / Int.gcd n d=k:=by rw[hk];exact Nat.mul_div_cancel_left _ (by omega)
  rw[hk']
  have e:d.sign*n=if n<0↔d<0 then (n.natAbs:Int) else -(n.natAbs:Int):=by
   rcases Int.lt_trichotomy d 0 with h | h | h
   ·rw[Int.sign_eq_neg_one_of_neg h];split<;>omega
   ·exact absurd h hd
   ·rw[Int.sign_eq_one_of_pos h];split<;>omega
  rw[e,hk]
  have hz:((Int.gcd n d:Nat):Int)≠0:=by omega
  split
  ·rw[Int.natCast_mul];exact Int.mul_ediv_cancel_left _ hz
  ·rw[Int.natCast_mul,←Int.mul_neg];exact Int.mul_ediv_cancel_left _ hz
 have hden:(Rat.divInt n d).den=d.natAbs / Int.gcd n d:=by
  rw[Rat.den_divInt,if_neg hd,Int.gcd_comm]
 unfold mk ofQ
 rw[if_neg hd,hnum,hden]
 generalize n.natAbs / Int.gcd n d=A
 generalize d.natAbs / Int.gcd n d=B
 have e2:(if n<0↔d<0 then (A:Int) else -(A:Int)).natAbs=A:=by
  split<;>simp
 rw[e2]
 have e3:(A≤2147483647∧B≤2147483647)↔¬(2147483647<A∨2147483647<B):=by omega
 by_cases h:2147483647<A∨2147483647<B<;>by_cases h2:n<0↔d<0<;>simp only[e3,h,h2,not_true_eq_false,not_false_eq_true,if_true,if_false]
theorem mk_zero (n:Int):mk n 0=(0,0,4):=rfl
theorem right_q {n d:Int} (h:right n d=true):(Rat.divInt n d).num=n∧((Rat.divInt n d).den:Int)=d:=by
 rw[right_iff] at h
 obtain ⟨h1,h2,h3,h4,h5⟩:=h
 constructor
 ·rw[Rat.num_divInt,Int.gcd_comm,h5,Int.sign_eq_one_of_pos (by omega)];simp
 ·rw[Rat.den_divInt,if_neg (by omega),Int.gcd_comm,h5];omega
theorem right_ne {n d:Int} (h:right n d=true):d≠0:=by
 rw[right_iff] at h;omega
theorem ofQ_end (q:Rat):(ofQ q).2.2=0∨((ofQ q).2.2=3∧(ofQ q).1=0∧(ofQ q).2.1=0):=by
 unfold ofQ;split<;>simp
theorem ofQ_done {q:Rat} {a b:Int} (h:ofQ q=(a,b,0)):right a b=true∧Rat.divInt a b=q:=by
 unfold ofQ at h
 split at h
 ·rename_i hb
  simp only[Prod.mk.injEq,and_true] at h
  obtain ⟨rfl,rfl⟩:=h
  refine ⟨?_,Rat.num_divInt_den q⟩
  rw[right_iff]
  have:=q.den_nz
  have hr:=q.reduced
  refine ⟨by omega,by omega,by omega,by omega,?_⟩
  rw[Int.gcd,Int.natAbs_natCast];exact hr
 ·simp at h
theorem ofQ_right {n d:Int} (h:right n d=true):ofQ (Rat.divInt n d)=(n,d,0):=by
 have a:=right_q h
 have b:=h
 rw[right_iff] at b
 unfold ofQ
 rw[if_pos (by rw[a.1];omega),a.1,a.2]
theorem mk_end (n d:Int):((mk n d).2.2=0∧d≠0)∨((mk n d).2.2=3∧(mk n d).1=0∧(mk n d).2.1=0)∨((mk n d).2.2=4∧(mk n d).1=0∧(mk n d).2.1=0):=by
 by_cases hd:d=0
 ·subst hd;right;right;exact ⟨rfl,rfl,rfl⟩
 ·rw[mk_eq hd]
  rcases ofQ_end (Rat.divInt n d) with h | h
  ·exact .inl ⟨h,hd⟩
  ·exact .inr (.inl h)
theorem mk_done {n d a b:Int} (h:mk n d=(a,b,0)):right a b=true∧Rat.divInt a b=Rat.divInt n d:=by
 by_cases hd:d=0
 ·subst hd;rw[mk_zero] at h;simp at h
 ·rw[mk_eq hd] at h;exact ofQ_done h
end Num
end
section
namespace Num
open Go
def text (n d:Int):List UInt8:=
 if right n d then Lib.itoa n++(if d=1 then [] else 47::Lib.itoa d) else []
def nat? (l:List UInt8):Option Nat:=if l.length≤10 then Lib.decNat l else none
def noSlash (b:UInt8):Bool:=b != 47
def lower (l:List UInt8):List UInt8:=match l.dropWhile noSlash with | []=>[49] | _::t=>t
def parseU (neg:Bool) (l:List UInt8):Int × Int × Bool:=
 match nat? (l.takeWhile noSlash),nat? (lower l) with
 | some n,some d=>((mk (if neg then -(n:Int) else n) d).1,(mk (if neg then -(n:Int) else n) d).2.1,decide ((mk (if neg then -(n:Int) else n) d).2.2=0))
 | _,_=>(0,0,false)
def parse (l:List UInt8):Int × Int × Bool:=
 match l with
 | 45::r=>parseU true r
 | r=>parseU false r
theorem digitVal_digit (k:Nat) (h:k<10):Lib.digitVal (UInt8.ofNat (48+k))=some k:=by
 unfold Lib.digitVal
 have:(UInt8.ofNat (48+k)).toNat=48+k:=by simp;omega
 rw[this,if_pos (by omega)]
 congr 1
 omega
theorem decFrom_append:∀(l:List UInt8) (acc m:Nat) (b:UInt8) (d:Nat),Lib.decFrom acc l=some m→Lib.digitVal b=some d→Lib.decFrom acc (l++[b])=some (m*10+d)
 | [],acc,m,b,d,h,hd=>by
  simp only[Lib.decFrom,Option.some.injEq] at h
  subst h
  simp[Lib.decFrom,hd]
 | c::l,acc,m,b,d,h,hd=>by
  simp only[Lib.decFrom,List.cons_append] at h ⊢
  cases hc:Lib.digitVal c with
  | none=>rw[hc] at h;cases h
  | some e=>
   rw[hc] at h
   exact decFrom_append l _ m b d h hd
theorem decFrom_decDigits (u:Nat):Lib.decFrom 0 (Lib.decDigits u)=some u:=by
 induction u using Nat.strongRecOn with
 | ind u ih=>
  rw[Lib.decDigits]
  split
  ·rename_i h
   show (match Lib.digitVal (UInt8.ofNat (48+u)) with | some d=>Lib.decFrom (0*10+d) [] | none=>none)=some u
   rw[digitVal_digit u h]
   simp[Lib.decFrom]
  ·rename_i h
   rw[decFrom_append _ _ _ _ _ (ih (u / 10) (by omega)) (digitVal_digit (u % 10) (by omega))]
   congr 1
   omega
theorem decDigits_ne (u:Nat):Lib.decDigits u≠[]:=by
 rw[Lib.decDigits];split<;>simp
theorem decNat_decDigits (u:Nat):Lib.decNat (Lib.decDigits u)=some u:=by
 unfold Lib.decNat
 rw[if_neg (by simpa using decDigits_ne u),decFrom_decDigits]
theorem decDigits_len (u:Nat) (h:u<10000000000):(Lib.decDigits u).length≤10:=by
 rw[Lib.decDigits_length]
 have:∀(k u:Nat),u<10 ^ (k+1)→Lib.nDigits u≤k+1:=by
  intro k
  induction k with
  | zero=>intro u h;rw[Lib.nDigits_small (by simpa using h)];omega
  | succ k ih=>
   intro u h
   by_cases hs:u<10
   ·rw[Lib.nDigits_small hs];omega
   ·rw[Lib.nDigits_big hs]
    have:=ih (u / 10) (by rw[Nat.pow_succ] at h;omega)
    omega
 exact this 9 u (by simpa using h)
theorem nat?_decDigits (u:Nat) (h:u<10000000000):nat? (Lib.decDigits u)=some u:=by
 unfold nat?
 rw[if_pos (decDigits_len u h),decNat_decDigits]
def isDigit (b:UInt8):Bool:=decide (48≤b.toNat)&&decide (b.toNat≤57)
theorem decDigits_digit (u:Nat):∀b∈Lib.decDigits u,isDigit b=true:=by
 induction u using Nat.strongRecOn with
 | ind u ih=>
  intro b hb
  rw[Lib.decDigits] at hb
  split at hb
  ·rename_i h
   simp only[List.mem_singleton] at hb
   subst hb
   have:(UInt8.ofNat (48+u)).toNat=48+u:=by simp;omega
   simp only[isDigit,this,Bool.and_eq_true,decide_eq_true_eq];omega
  ·rename_i h
   rw[List.mem_append] at hb
   rcases hb with hb | hb
   ·exact ih (u / 10) (by omega) b hb
   ·simp only[List.mem_singleton] at hb
    subst hb
    have:(UInt8.ofNat (48+u % 10)).toNat=48+u % 10:=by simp;omega
    simp only[isDigit,this,Bool.and_eq_true,decide_eq_true_eq];omega
theorem noSlash_of_digit {b:UInt8} (h:isDigit b=true):noSlash b=true:=by
 simp only[isDigit,Bool.and_eq_true,decide_eq_true_eq] at h
 simp only[noSlash,bne_iff_ne,ne_eq]
 rintro rfl
 simp at h
theorem takeWhile_all {l r:List UInt8} (h:∀b∈l,noSlash b=true):(l++47::r).takeWhile noSlash=l∧(l++47::r).dropWhile noSlash=47::r:=by
 induction l with
 | nil=>simp[noSlash]
 | cons c l ih=>
  have hc:=h c (by simp)
  have:=ih (fun b hb=>h b (by simp[hb]))
  simp[hc,this]
theorem takeWhile_only {l:List UInt8} (h:∀b∈l,noSlash b=true):l.takeWhile noSlash=l∧l.dropWhile noSlash=[]:=by
 induction l with
 | nil=>simp
 | cons c l ih=>
  have hc:=h c (by simp)
  have:=ih (fun b hb=>h b (by simp[hb]))
  simp[hc,this]
theorem itoa_nat {d:Int} (h:0≤d):Lib.itoa d=Lib.decDigits d.toNat:=by
 unfold Lib.itoa;rw[if_neg (by omega)]
theorem parseU_text (neg:Bool) (u:Nat) (d:Int) (hu:u<10000000000) (hd:1≤d) (hd2:d<10000000000) :
  parseU neg (Lib.decDigits u++(if d=1 then [] else 47::Lib.itoa d))=((mk (if neg then -(u:Int) else u) d).1,(mk (if neg then -(u:Int) else u) d).2.1,decide ((mk (if neg then -(u:Int) else u) d).2.2=0)):=by
 have hns:∀b∈Lib.decDigits u,noSlash b=true:=fun b hb=>noSlash_of_digit (decDigits_digit u b hb)
 by_cases h1:d=1
 ·subst h1
  simp only[if_true,List.append_nil,parseU,lower,takeWhile_only hns,nat?_decDigits u hu]
  have:nat? [49]=some 1:=by rfl
  rw[this]
  rfl
 ·simp only[h1,if_false,parseU,lower,takeWhile_all hns,nat?_decDigits u hu]
  rw[itoa_nat (by omega),nat?_decDigits d.toNat (by omega)]
  simp only[]
  rw[Int.toNat_of_nonneg (by omega)]
theorem parse_text {n d:Int} (h:right n d=true):parse (text n d)=(n,d,true):=by
 have hb:=h
 rw[right_iff] at hb
 have hmk:mk n d=(n,d,0):=by rw[mk_eq (right_ne h),ofQ_right h]
 unfold text
 rw[if_pos h]
 by_cases hn:n<0
 ·have e:Lib.itoa n=45::Lib.decDigits n.natAbs:=by unfold Lib.itoa;rw[if_pos hn]
  rw[e]
  show parseU true (Lib.decDigits n.natAbs++_)=_
  rw[parseU_text true _ _ (by omega) (by omega) (by omega)]
  have e2:(if true=true then -(n.natAbs:Int) else (n.natAbs:Int))=n:=by simp;omega
  rw[e2,hmk]
  rfl
 ·rw[itoa_nat (by omega)]
  have hp:parse (Lib.decDigits n.toNat++if d=1 then [] else 47::Lib.itoa d)=parseU false (Lib.decDigits n.toNat++if d=1 then [] else 47::Lib.itoa d):=by
   have hd:=decDigits_digit n.toNat
   generalize Lib.decDigits n.toNat=l at *
   unfold parse
   split
   ·rename_i r heq
    exfalso
    cases l with
    | nil=>
     split at heq
     ·cases heq
     ·simp at heq
    | cons c l=>
     simp only[List.cons_append,List.cons.injEq] at heq
     have:=hd c (by simp)
     rw[heq.1] at this
     exact absurd this (by decide)
   ·rfl
  rw[hp,parseU_text false _ _ (by omega) (by omega) (by omega)]
  have e2:(if false=true then -(n.toNat:Int) else (n.toNat:Int))=n:=by simp;omega
  rw[e2,hmk]
  rfl
end Num
end
section
inductive Dat where
 | mk (kind n d:Int) (s:ByteArray) (l:List Dat)
namespace Dat
open Go
def kind:Dat→Int | mk k _ _ _ _=>k
def n:Dat→Int | mk _ n _ _ _=>n
def d:Dat→Int | mk _ _ d _ _=>d
def s:Dat→ByteArray | mk _ _ _ s _=>s
def l:Dat→List Dat | mk _ _ _ _ l=>l
def marks:List UInt8:=[97,98,99,100,101,102,103,104,105,106,107,108,109,110,111,112,113,114,115,116,117,118,119,120,121,122,48,49,50,51,52,53,54,55,56,57,45,43,42,47,60,62,61,33,63,95,37]
def nameByte (b:UInt8):Bool:=marks.contains b
def name (l:List UInt8):Bool:=decide (1≤l.length)&&(decide (l.length≤40)&&(l.all nameByte && !(Num.parse l).2.2))
def strByte (b:UInt8):Bool:=decide (32≤b.toNat)&&(decide (b.toNat≤126)&&(decide (b.toNat≠34)&&decide (b.toNat≠92)))
def head (k n d:Int) (s:List UInt8) (len:Nat):Bool:=
 if k=0 then Num.right n d&&(s.isEmpty&&decide (len=0))
 else if k=1 then decide (d=0)&&(decide (n=0∨n=1)&&(s.isEmpty&&decide (len=0)))
 else if k=2 then decide (d=0)&&(decide (n=0)&&(name s&&decide (len=0)))
 else if k=3 then decide (d=0)&&(decide (n=0)&&(s.all strByte&&decide (len=0)))
 else if k=4∨k=5 then decide (d=0)&&(decide (n=0)&&(s.isEmpty&&decide (len=0)))
 else if k=6 then decide (d=0)&&(decide (n=0)&&(s.isEmpty&&decide (len=2)))
 else if k=7 then decide (d=0)&&(decide (n=0)&&s.isEmpty)
 else false
mutual
def right:Dat→Nat→Bool
 | mk k n d s l,deep=>decide (deep≤200)&&(head k n d s.data.toList l.length&&rightL l (deep+1))
def rightL:List Dat→Nat→Bool
 | [],_=>true
 | x::l,deep=>right x deep&&rightL l deep
end
mutual
def few:Dat→Int→Int
 | mk _ _ _ _ l,left=>fewL l (left-1)
def fewL:List Dat→Int→Int
 | [],left=>left
 | x::l,left=>if 0≤left then fewL l (few x left) else left
end
mutual
def size:Dat→Nat→Nat
 | mk _ _ _ _ l,deep=>1+(if deep<1000 then sizeL l (deep+1) else 0)
def sizeL:List Dat→Nat→Nat
 | [],_=>0
 | x::l,deep=>size x deep+sizeL l deep
end
mutual
def all:Dat→Nat
 | mk _ _ _ _ l=>1+allL l
def allL:List Dat→Nat
 | []=>0
 | x::l=>all x+allL l
end
mutual
def alike:Dat→Dat→Bool
 | mk k n d s l,mk k' n' d' s' l'=>(decide (k=k')&&(decide (n=n')&&(decide (d=d')&&decide (s=s'))))&&alikeL l l'
def alikeL:List Dat→List Dat→Bool
 | [],[]=>true
 | x::l,y::l'=>alike x y&&alikeL l l'
 | _,_=>false
end
mutual
def text:Dat→Bool→List UInt8
 | mk k n d s l,tail=>
  if k=6 then (if tail then 32::textP l else 40::(textP l++[41]))
  else if tail then (if k=4 then [] else [32,46,32]++textA k n d s l) else textA k n d s l
def textA (k n d:Int) (s:ByteArray) (l:List Dat):List UInt8:=
 if k=0 then Num.text n d
 else if k=1 then (if n=1 then [35,116] else [35,102])
 else if k=2 then s.data.toList
 else if k=3 then 34::(s.data.toList++[34])
 else if k=4 then [40,41]
 else if k=5 then [35,118]
 else [35,40]++(textV l true++[41])
def textP:List Dat→List UInt8
 | [a,b]=>text a false++text b true
 | _=>[]
def textV:List Dat→Bool→List UInt8
 | [],_=>[]
 | x::l,first=>(if first then [] else [32])++(text x false++textV l false)
end
def null:Dat:=mk 4 0 0 ⟨#[]⟩ []
def pair (a b:Dat):Dat:=mk 6 0 0 ⟨#[]⟩ [a,b]
def list:List Dat→Dat
 | []=>null
 | x::l=>pair x (list l)
def items:Dat→Option (List Dat)
 | mk k _ _ _ [a,b]=>if k=6 then (items b).map (a :: ·) else none
 | mk k _ _ _ _=>if k=4 then some [] else none
end Dat
end
section
namespace Dat
open Go
theorem ind {P:Dat→Prop} (h:∀k n d s l,(∀x∈l,P x)→P (mk k n d s l)):∀x,P x:=by
 intro x
 refine Dat.rec (motive_1:=P) (motive_2:=fun l=>∀x∈l,P x) ?_ ?_ ?_ x
 ·intro k n d s l ih;exact h k n d s l ih
 ·intro x hx;cases hx
 ·intro x l hx hl y hy
  rcases List.mem_cons.1 hy with rfl | hy
  ·exact hx
  ·exact hl y hy
theorem all_pos (x:Dat):1≤all x:=by cases x;simp[all]
theorem few_both:∀x:Dat,∀left:Int,((all x:Int)≤left→few x left=left-all x)∧(left<all x→few x left<0):=by
 have hL:∀l:List Dat,(∀x∈l,∀left:Int,((all x:Int)≤left→few x left=left-all x)∧(left<all x→few x left<0)) →
   ∀left:Int,((allL l:Int)≤left→fewL l left=left-allL l)∧(left<allL l→fewL l left<0):=by
  intro l
  induction l with
  | nil=>intro _ left;simp[fewL,allL]
  | cons x l ih=>
   intro h left
   have ih:=ih (fun y hy=>h y (by simp[hy]))
   have hx:=h x (by simp) left
   have hp:=all_pos x
   constructor
   ·intro hle
    simp only[allL] at hle
    rw[fewL,if_pos (by omega),hx.1 (by omega),(ih _).1 (by omega)]
    simp only[allL];omega
   ·intro hlt
    simp only[allL] at hlt
    rw[fewL]
    split
    ·by_cases hc:left<all x
     ·have:=hx.2 hc
      have e:fewL l (few x left)=few x left:=by
       cases l with
       | nil=>rfl
       | cons y l=>rw[fewL,if_neg (by omega)]
      omega
     ·rw[hx.1 (by omega)]
      exact (ih _).2 (by omega)
    ·omega
 intro x
 induction x using ind with
 | h k n d s l ih=>
  intro left
  have:=hL l ih (left-1)
  simp only[few,all]
  constructor
  ·intro h;rw[this.1 (by omega)];omega
  ·intro h;exact this.2 (by omega)
theorem few_iff (x:Dat) (left:Int):0≤few x left↔(all x:Int)≤left:=by
 have:=few_both x left
 constructor
 ·intro h
  apply Decidable.byContradiction
  intro hc
  have:=this.2 (by omega)
  omega
 ·intro h;rw[this.1 h];omega
theorem few_le (x:Dat) (left:Int):few x left≤left-1∨few x left<0:=by
 have:=few_both x left
 have hp:=all_pos x
 by_cases h:(all x:Int)≤left
 ·rw[this.1 h];omega
 ·exact .inr (this.2 (by omega))
theorem all_mem {x:Dat} {l:List Dat} (h:x∈l):all x≤allL l:=by
 induction l with
 | nil=>cases h
 | cons y l ih=>
  simp only[allL]
  rcases List.mem_cons.1 h with rfl | h
  ·omega
  ·have:=ih h;omega
theorem rightL_iff (l:List Dat) (deep:Nat):rightL l deep=true↔∀x∈l,right x deep=true:=by
 induction l with
 | nil=>simp[rightL]
 | cons x l ih=>simp[rightL,ih]
theorem right_less:∀x:Dat,∀a b,b≤a→right x a=true→right x b=true:=by
 intro x
 induction x using ind with
 | h k n d s l ih=>
  intro a b hab h
  simp only[right,Bool.and_eq_true,decide_eq_true_eq] at h ⊢
  refine ⟨by omega,h.2.1,?_⟩
  rw[rightL_iff] at h ⊢
  exact fun x hx=>ih x hx (a+1) (b+1) (by omega) (h.2.2 x hx)
theorem right_part {x y:Dat} {deep:Nat} (h:right x deep=true) (hy:y∈x.l):right y 0=true:=by
 obtain ⟨k,n,d,s,l⟩:=x
 simp only[right,Bool.and_eq_true,decide_eq_true_eq] at h
 exact right_less y _ 0 (by omega) ((rightL_iff _ _).1 h.2.2 y hy)
end Dat
end
section
namespace Dat
open Go
def emptyB:ByteArray:=⟨#[]⟩
mutual
def dec:Nat→List UInt8→Option (Dat × List UInt8)
 | 0,_=>none
 | _+1,[]=>none
 | f+1,b::r=>
  if b=35 then
   match r with
   | []=>none
   | c::r=>
    if c=116 then some (mk 1 1 0 emptyB [],r)
    else if c=102 then some (mk 1 0 0 emptyB [],r)
    else if c=118 then some (mk 5 0 0 emptyB [],r)
    else (decV f r true).map fun p=>(mk 7 0 0 emptyB p.1,p.2)
  else if b=34 then some (mk 3 0 0 ⟨(r.takeWhile (· != 34)).toArray⟩ [],(r.dropWhile (· != 34)).tail)
  else if b=40 then
   if r.head?=some 41 then some (null,r.tail)
   else (dec f r).bind fun p=>(decT f p.2).map fun q=>(pair p.1 q.1,q.2)
  else if (Num.parse ((b::r).takeWhile nameByte)).2.2 then
   some (mk 0 (Num.parse ((b::r).takeWhile nameByte)).1 (Num.parse ((b::r).takeWhile nameByte)).2.1 emptyB [],(b::r).dropWhile nameByte)
  else some (mk 2 0 0 ⟨((b::r).takeWhile nameByte).toArray⟩ [],(b::r).dropWhile nameByte)
def decT:Nat→List UInt8→Option (Dat × List UInt8)
 | 0,_=>none
 | _+1,[]=>none
 | f+1,b::r=>
  if b=41 then some (null,r)
  else if r.head?=some 46 then (dec f r.tail.tail).map fun p=>(p.1,p.2.tail)
  else (dec f r).bind fun p=>(decT f p.2).map fun q=>(pair p.1 q.1,q.2)
def decV:Nat→List UInt8→Bool→Option (List Dat × List UInt8)
 | 0,_,_=>none
 | f+1,r,first=>
  if r.head?=some 41 then some ([],r.tail)
  else (dec f (if first then r else r.tail)).bind fun p=>(decV f p.2 false).map fun q=>(p.1::q.1,q.2)
end
def delim (r:List UInt8):Prop:=r=[]∨∃t,r=32::t∨r=41::t
theorem takeWhile_delim (p:UInt8→Bool) {l r:List UInt8} (h:∀b∈l,p b=true) (hr:r=[]∨∃c t,r=c::t∧p c=false) :
  (l++r).takeWhile p=l∧(l++r).dropWhile p=r:=by
 induction l with
 | nil=>
  rcases hr with rfl | ⟨c,t,rfl,hc⟩
  ·simp
  ·simp[hc]
 | cons c l ih=>
  have hc:=h c (by simp)
  have:=ih (fun b hb=>h b (by simp[hb]))
  simp[hc,this]
theorem delim_name {r:List UInt8} (h:delim r):r=[]∨∃c t,r=c::t∧nameByte c=false:=by
 rcases h with h | ⟨t,h | h⟩
 ·exact .inl h
 ·exact .inr ⟨_,_,h,by decide⟩
 ·exact .inr ⟨_,_,h,by decide⟩
theorem digit_name {b:UInt8} (h:Num.isDigit b=true):nameByte b=true:=by
 simp only[Num.isDigit,Bool.and_eq_true,decide_eq_true_eq] at h
 have:∀k:Fin 58,48≤k.val→nameByte (UInt8.ofNat k.val)=true:=by decide
 have e:b=UInt8.ofNat b.toNat:=by simp
 rw[e]
 exact this ⟨b.toNat,by omega⟩ h.1
theorem itoa_name (n:Int):∀b∈Lib.itoa n,nameByte b=true:=by
 intro b hb
 unfold Lib.itoa at hb
 split at hb
 ·rcases List.mem_cons.1 hb with rfl | hb
  ·decide
  ·exact digit_name (Num.decDigits_digit _ b hb)
 ·exact digit_name (Num.decDigits_digit _ b hb)
theorem itoa_ne (n:Int):Lib.itoa n≠[]:=by
 unfold Lib.itoa
 split
 ·simp
 ·exact Num.decDigits_ne _
theorem text_name {n d:Int} (h:Num.right n d=true):(∀b∈Num.text n d,nameByte b=true)∧Num.text n d≠[]:=by
 unfold Num.text
 rw[if_pos h]
 constructor
 ·intro b hb
  rcases List.mem_append.1 hb with hb | hb
  ·exact itoa_name _ b hb
  ·split at hb
   ·cases hb
   ·rcases List.mem_cons.1 hb with rfl | hb
    ·decide
    ·exact itoa_name _ b hb
 ·simp[itoa_ne]
def opens (b:UInt8):Prop:=b≠46∧b≠41
theorem name_opens {b:UInt8} (h:nameByte b=true):b≠46∧b≠41∧b≠35∧b≠34∧b≠40:=by
 refine ⟨?_,?_,?_,?_,?_⟩<;>rintro rfl<;>revert h<;>decide
theorem empty_of {s:ByteArray} (h:s.data.toList.isEmpty=true):s=emptyB:=by
 obtain ⟨⟨l⟩⟩:=s
 simp only[List.isEmpty_iff] at h
 subst h;rfl
theorem of_toList (s:ByteArray):(⟨s.data.toList.toArray⟩:ByteArray)=s:=by
 obtain ⟨⟨l⟩⟩:=s;rfl
theorem head_cases {k n d:Int} {s:ByteArray} {l:List Dat} (h:head k n d s.data.toList l.length=true) :
  (k=0∧Num.right n d=true∧s=emptyB∧l=[])∨(k=1∧d=0∧(n=0∨n=1)∧s=emptyB∧l=[])∨(k=2∧d=0∧n=0∧name s.data.toList=true∧l=[]) ∨
  (k=3∧d=0∧n=0∧s.data.toList.all strByte=true∧l=[])∨(k=4∧d=0∧n=0∧s=emptyB∧l=[])∨(k=5∧d=0∧n=0∧s=emptyB∧l=[]) ∨
  (k=6∧d=0∧n=0∧s=emptyB∧∃a b,l=[a,b])∨(k=7∧d=0∧n=0∧s=emptyB):=by
 have hl:∀{l:List Dat},l.length=0→l=[]:=fun h=>List.length_eq_zero_iff.1 h
 unfold head at h
 split at h
 ·simp only[Bool.and_eq_true,decide_eq_true_eq] at h
  exact .inl ⟨‹_›,h.1,empty_of h.2.1,hl h.2.2⟩
 split at h
 ·simp only[Bool.and_eq_true,decide_eq_true_eq] at h
  exact .inr (.inl ⟨‹_›,h.1,h.2.1,empty_of h.2.2.1,hl h.2.2.2⟩)
 split at h
 ·simp only[Bool.and_eq_true,decide_eq_true_eq] at h
  exact .inr (.inr (.inl ⟨‹_›,h.1,h.2.1,h.2.2.1,hl h.2.2.2⟩))
 split at h
 ·simp only[Bool.and_eq_true,decide_eq_true_eq] at h
  exact .inr (.inr (.inr (.inl ⟨‹_›,h.1,h.2.1,h.2.2.1,hl h.2.2.2⟩)))
 split at h
 ·rename_i hk
  simp only[Bool.and_eq_true,decide_eq_true_eq] at h
  rcases hk with hk | hk
  ·exact .inr (.inr (.inr (.inr (.inl ⟨hk,h.1,h.2.1,empty_of h.2.2.1,hl h.2.2.2⟩))))
  ·exact .inr (.inr (.inr (.inr (.inr (.inl ⟨hk,h.1,h.2.1,empty_of h.2.2.1,hl h.2.2.2⟩)))))
 split at h
 ·simp only[Bool.and_eq_true,decide_eq_true_eq] at h
  refine .inr (.inr (.inr (.inr (.inr (.inr (.inl ⟨‹_›,h.1,h.2.1,empty_of h.2.2.1,?_⟩))))))
  match l,h.2.2.2 with
  | [a,b],_=>exact ⟨a,b,rfl⟩
 split at h
 ·simp only[Bool.and_eq_true,decide_eq_true_eq] at h
  exact .inr (.inr (.inr (.inr (.inr (.inr (.inr ⟨‹_›,h.1,h.2.1,empty_of h.2.2⟩))))))
 ·cases h
theorem name_iff {l:List UInt8} (h:name l=true):(∀b∈l,nameByte b=true)∧l≠[]∧(Num.parse l).2.2=false:=by
 simp only[name,Bool.and_eq_true,decide_eq_true_eq,List.all_eq_true,Bool.not_eq_true'] at h
 refine ⟨h.2.2.1,?_,h.2.2.2⟩
 rintro rfl;simp at h
theorem text_opens:∀x:Dat,∀deep,right x deep=true→∃c t,text x false=c::t∧c≠46∧c≠41:=by
 intro x deep h
 obtain ⟨k,n,d,s,l⟩:=x
 simp only[right,Bool.and_eq_true,decide_eq_true_eq] at h
 rcases head_cases h.2.1 with ⟨rfl,h1,rfl,rfl⟩ | ⟨rfl,rfl,h1,rfl,rfl⟩ | ⟨rfl,rfl,rfl,h1,rfl⟩ | ⟨rfl,rfl,rfl,h1,rfl⟩ | ⟨rfl,rfl,rfl,rfl,rfl⟩ | ⟨rfl,rfl,rfl,rfl,rfl⟩ | ⟨rfl,rfl,rfl,rfl,a,b,rfl⟩ | ⟨rfl,rfl,rfl,rfl⟩
 ·obtain ⟨ha,hne⟩:=text_name h1
  cases ht:Num.text n d with
  | nil=>exact absurd ht hne
  | cons c t=>
   have:=name_opens (ha c (by rw[ht];simp))
   exact ⟨c,t,by simp[text,textA,ht],this.1,this.2.1⟩
 ·rcases h1 with rfl | rfl
  ·exact ⟨35,[102],by simp[text,textA],by decide,by decide⟩
  ·exact ⟨35,[116],by simp[text,textA],by decide,by decide⟩
 ·obtain ⟨ha,hne,_⟩:=name_iff h1
  cases ht:s.data.toList with
  | nil=>exact absurd ht hne
  | cons c t=>
   have:=name_opens (ha c (by rw[ht];simp))
   exact ⟨c,t,by simp[text,textA,ht],this.1,this.2.1⟩
 ·exact ⟨34,s.data.toList++[34],by simp[text,textA],by decide,by decide⟩
 ·exact ⟨40,[41],by simp[text,textA],by decide,by decide⟩
 ·exact ⟨35,[118],by simp[text,textA],by decide,by decide⟩
 ·exact ⟨40,textP [a,b]++[41],by simp[text],by decide,by decide⟩
 ·exact ⟨35,40::(textV l true++[41]),by simp[text,textA],by decide,by decide⟩
theorem text_tail:∀x:Dat,text x true=[]∨∃t,text x true=32::t:=by
 intro x
 obtain ⟨k,n,d,s,l⟩:=x
 simp only[text]
 split
 ·right;exact ⟨_,rfl⟩
 ·simp only[if_true]
  split
  ·left;rfl
  ·right;exact ⟨_,rfl⟩
theorem delim_tail (x:Dat) (r:List UInt8):delim (text x true++41::r):=by
 rcases text_tail x with h | ⟨t,h⟩
 ·rw[h];exact .inr ⟨r,.inr rfl⟩
 ·rw[h];exact .inr ⟨_,.inl rfl⟩
theorem dec_both:∀x:Dat,∀deep,right x deep=true →
  (∀r,delim r→∃f0,∀f,f0≤f→dec f (text x false++r)=some (x,r))∧(∀r,∃f0,∀f,f0≤f→decT f (text x true++41::r)=some (x,r)):=by
 intro x
 induction x using ind with
 | h k n d s l ih=>
  intro deep h
  have hrt:=h
  simp only[right,Bool.and_eq_true,decide_eq_true_eq] at h
  have hparts:=(rightL_iff _ _).1 h.2.2
  -- what is no Pair and no Null: the tail out of the datum itself
  have tl:k≠6→k≠4→(∀r,delim r→∃f0,∀f,f0≤f→dec f (text (mk k n d s l) false++r)=some (mk k n d s l,r)) →
    ∀r,∃f0,∀f,f0≤f→decT f (text (mk k n d s l) true++41::r)=some (mk k n d s l,r):=by
   intro h6 h4 hA r
   obtain ⟨f0,hf⟩:=hA (41::r) (.inr ⟨r,.inr rfl⟩)
   refine ⟨f0+1,fun f hle=>?_⟩
   obtain ⟨f,rfl⟩:∃g,f=g+1:=⟨f-1,by omega⟩
   have e:text (mk k n d s l) true=32::46::32::text (mk k n d s l) false:=by
    simp[text,h6,h4]
   rw[e]
   simp only[List.cons_append,decT,List.head?_cons,List.tail_cons]
   rw[if_neg (by decide),if_pos trivial,hf f (by omega)]
   rfl
  rcases head_cases h.2.1 with ⟨rfl,h1,rfl,rfl⟩ | ⟨rfl,rfl,h1,rfl,rfl⟩ | ⟨rfl,rfl,rfl,h1,rfl⟩ | ⟨rfl,rfl,rfl,h1,rfl⟩ | ⟨rfl,rfl,rfl,rfl,rfl⟩ | ⟨rfl,rfl,rfl,rfl,rfl⟩ | ⟨rfl,rfl,rfl,rfl,a,b,rfl⟩ | ⟨rfl,rfl,rfl,rfl⟩
  ·-- a number
   have A:∀r,delim r→∃f0,∀f,f0≤f→dec f (text (mk 0 n d emptyB []) false++r)=some (mk 0 n d emptyB [],r):=by
    intro r hr
    refine ⟨1,fun f hle=>?_⟩
    obtain ⟨f,rfl⟩:∃g,f=g+1:=⟨f-1,by omega⟩
    obtain ⟨ha,hne⟩:=text_name h1
    have hp:=Num.parse_text h1
    have e:text (mk 0 n d emptyB []) false=Num.text n d:=by simp[text,textA]
    rw[e]
    have tw:=takeWhile_delim nameByte ha (delim_name hr)
    cases ht:Num.text n d with
    | nil=>exact absurd ht hne
    | cons c t=>
     have:=name_opens (ha c (by rw[ht];simp))
     rw[ht] at tw hp
     simp only[List.cons_append] at tw ⊢
     simp only[dec]
     rw[if_neg this.2.2.1,if_neg this.2.2.2.1,if_neg this.2.2.2.2,tw.1,tw.2,hp]
     simp
   exact ⟨A,tl (by decide) (by decide) A⟩
  ·-- #t,#f
   have A:∀r,delim r→∃f0,∀f,f0≤f→dec f (text (mk 1 n 0 emptyB []) false++r)=some (mk 1 n 0 emptyB [],r):=by
    intro r hr
    refine ⟨1,fun f hle=>?_⟩
    obtain ⟨f,rfl⟩:∃g,f=g+1:=⟨f-1,by omega⟩
    rcases h1 with rfl | rfl
    ·have e:text (mk 1 0 0 emptyB []) false=[35,102]:=by simp[text,textA]
     rw[e];simp[dec]
    ·have e:text (mk 1 1 0 emptyB []) false=[35,116]:=by simp[text,textA]
     rw[e];simp[dec]
   exact ⟨A,tl (by decide) (by decide) A⟩
  ·-- a name
   have A:∀r,delim r→∃f0,∀f,f0≤f→dec f (text (mk 2 0 0 s []) false++r)=some (mk 2 0 0 s [],r):=by
    intro r hr
    refine ⟨1,fun f hle=>?_⟩
    obtain ⟨f,rfl⟩:∃g,f=g+1:=⟨f-1,by omega⟩
    obtain ⟨ha,hne,hp⟩:=name_iff h1
    have e:text (mk 2 0 0 s []) false=s.data.toList:=by simp[text,textA]
    rw[e]
    have tw:=takeWhile_delim nameByte ha (delim_name hr)
    have hs:=of_toList s
    cases ht:s.data.toList with
    | nil=>exact absurd ht hne
    | cons c t=>
     have:=name_opens (ha c (by rw[ht];simp))
     rw[ht] at tw hp hs
     simp only[List.cons_append] at tw ⊢
     simp only[dec]
     rw[if_neg this.2.2.1,if_neg this.2.2.2.1,if_neg this.2.2.2.2,tw.1,tw.2,hp,hs]
     simp
   exact ⟨A,tl (by decide) (by decide) A⟩
  ·-- a string
   have A:∀r,delim r→∃f0,∀f,f0≤f→dec f (text (mk 3 0 0 s []) false++r)=some (mk 3 0 0 s [],r):=by
    intro r hr
    refine ⟨1,fun f hle=>?_⟩
    obtain ⟨f,rfl⟩:∃g,f=g+1:=⟨f-1,by omega⟩
    have e:text (mk 3 0 0 s []) false=34::(s.data.toList++[34]):=by simp[text,textA]
    have ha:∀b∈s.data.toList,(b != 34)=true:=by
     intro b hb
     have:=List.all_eq_true.1 h1 b hb
     simp only[strByte,Bool.and_eq_true,decide_eq_true_eq] at this
     simp only[bne_iff_ne,ne_eq]
     rintro rfl
     exact absurd rfl this.2.2.1
    have tw:=takeWhile_delim (· != 34) ha (r:=34::r) (.inr ⟨34,r,rfl,by decide⟩)
    rw[e]
    have e2:34::(s.data.toList++[34])++r=34::(s.data.toList++34::r):=by simp
    rw[e2]
    simp only[dec]
    rw[if_neg (by decide),if_pos trivial,tw.1,tw.2,of_toList]
    rfl
   exact ⟨A,tl (by decide) (by decide) A⟩
  ·-- Null
   constructor
   ·intro r hr
    refine ⟨1,fun f hle=>?_⟩
    obtain ⟨f,rfl⟩:∃g,f=g+1:=⟨f-1,by omega⟩
    have e:text (mk 4 0 0 emptyB []) false=[40,41]:=by simp[text,textA]
    rw[e];simp[dec,null,emptyB]
   ·intro r
    refine ⟨1,fun f hle=>?_⟩
    obtain ⟨f,rfl⟩:∃g,f=g+1:=⟨f-1,by omega⟩
    have e:text (mk 4 0 0 emptyB []) true=[]:=by simp[text]
    rw[e];simp[decT,null,emptyB]
  ·-- Void
   have A:∀r,delim r→∃f0,∀f,f0≤f→dec f (text (mk 5 0 0 emptyB []) false++r)=some (mk 5 0 0 emptyB [],r):=by
    intro r hr
    refine ⟨1,fun f hle=>?_⟩
    obtain ⟨f,rfl⟩:∃g,f=g+1:=⟨f-1,by omega⟩
    have e:text (mk 5 0 0 emptyB []) false=[35,118]:=by simp[text,textA]
    rw[e];simp[dec]
   exact ⟨A,tl (by decide) (by decide) A⟩
  ·-- a Pair
   have ra:=hparts a (by simp)
   have rb:=hparts b (by simp)
   have iha:=(ih a (by simp) _ ra).1
   have ihb:=(ih b (by simp) _ rb).2
   obtain ⟨c,t,hc,hc1,hc2⟩:=text_opens a _ ra
   constructor
   ·intro r hr
    obtain ⟨f1,hf1⟩:=iha (text b true++41::r) (delim_tail b r)
    obtain ⟨f2,hf2⟩:=ihb r
    refine ⟨f1+f2+1,fun f hle=>?_⟩
    obtain ⟨f,rfl⟩:∃g,f=g+1:=⟨f-1,by omega⟩
    have e:text (mk 6 0 0 emptyB [a,b]) false++r=40::(text a false++(text b true++41::r)):=by simp[text,textP]
    rw[e]
    simp only[dec]
    rw[if_neg (by decide),if_neg (by decide),if_pos trivial,if_neg (by rw[hc];simp[hc2]),hf1 f (by omega)]
    simp only[Option.bind_some]
    rw[hf2 f (by omega)]
    rfl
   ·intro r
    obtain ⟨f1,hf1⟩:=iha (text b true++41::r) (delim_tail b r)
    obtain ⟨f2,hf2⟩:=ihb r
    refine ⟨f1+f2+1,fun f hle=>?_⟩
    obtain ⟨f,rfl⟩:∃g,f=g+1:=⟨f-1,by omega⟩
    have e:text (mk 6 0 0 emptyB [a,b]) true++41::r=32::(text a false++(text b true++41::r)):=by simp[text,textP]
    rw[e]
    simp only[decT]
    rw[if_neg (by decide),if_neg (by rw[hc];simp[hc1]),hf1 f (by omega)]
    simp only[Option.bind_some]
    rw[hf2 f (by omega)]
    rfl
  ·-- a Vec
   have V:∀l:List Dat,(∀x∈l,∀r,delim r→∃f0,∀f,f0≤f→dec f (text x false++r)=some (x,r))→(∀x∈l,∃c t,text x false=c::t∧c≠46∧c≠41) →
     ∀first r,∃f0,∀f,f0≤f→decV f (textV l first++41::r) first=some (l,r):=by
    intro l
    induction l with
    | nil=>
     intro _ _ first r
     refine ⟨1,fun f hle=>?_⟩
     obtain ⟨f,rfl⟩:∃g,f=g+1:=⟨f-1,by omega⟩
     simp[textV,decV]
    | cons x l ihl=>
     intro hA hO first r
     have hd:delim (textV l false++41::r):=by
      cases l with
      | nil=>exact .inr ⟨r,.inr (by simp[textV])⟩
      | cons y l=>exact .inr ⟨text y false++textV l false++41::r,.inl (by simp[textV])⟩
     obtain ⟨f1,hf1⟩:=hA x (by simp) (textV l false++41::r) hd
     obtain ⟨f2,hf2⟩:=ihl (fun y hy=>hA y (by simp[hy])) (fun y hy=>hO y (by simp[hy])) false r
     obtain ⟨c,t,hc,_,hc2⟩:=hO x (by simp)
     refine ⟨f1+f2+1,fun f hle=>?_⟩
     obtain ⟨f,rfl⟩:∃g,f=g+1:=⟨f-1,by omega⟩
     have e:(if first=true then textV (x::l) first++41::r else (textV (x::l) first++41::r).tail)=text x false++(textV l false++41::r):=by
      cases first<;>simp[textV]
     have e2:(textV (x::l) first++41::r).head?≠some 41:=by
      cases first<;>simp[textV,hc,hc2]
     simp only[decV]
     rw[if_neg e2,e,hf1 f (by omega)]
     simp only[Option.bind_some]
     rw[hf2 f (by omega)]
     rfl
   have A:∀r,delim r→∃f0,∀f,f0≤f→dec f (text (mk 7 0 0 emptyB l) false++r)=some (mk 7 0 0 emptyB l,r):=by
    intro r hr
    obtain ⟨f1,hf1⟩:=V l (fun x hx=>(ih x hx _ (hparts x hx)).1) (fun x hx=>text_opens x _ (hparts x hx)) true r
    refine ⟨f1+1,fun f hle=>?_⟩
    obtain ⟨f,rfl⟩:∃g,f=g+1:=⟨f-1,by omega⟩
    have e:text (mk 7 0 0 emptyB l) false++r=35::40::(textV l true++41::r):=by simp[text,textA]
    rw[e]
    simp only[dec]
    rw[if_pos trivial,if_neg (by decide),if_neg (by decide),if_neg (by decide),hf1 f (by omega)]
    rfl
   exact ⟨A,tl (by decide) (by decide) A⟩
theorem text_inj {x y:Dat} {a b:Nat} (hx:right x a=true) (hy:right y b=true) (h:text x false=text y false):x=y:=by
 obtain ⟨f1,h1⟩:=(dec_both x a hx).1 [] (.inl rfl)
 obtain ⟨f2,h2⟩:=(dec_both y b hy).1 [] (.inl rfl)
 have e1:=h1 (f1+f2) (by omega)
 have e2:=h2 (f1+f2) (by omega)
 rw[h,e2] at e1
 simpa using e1.symm
end Dat
end
end Go.Proofs.YtgbibibmpoekiaaGreatDoor
