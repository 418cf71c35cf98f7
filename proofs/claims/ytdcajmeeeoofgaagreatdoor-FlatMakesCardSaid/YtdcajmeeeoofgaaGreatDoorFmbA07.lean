/- .. -/
import Derived.WalkSpells
import Derived.Deep.Cut
import Derived.Deep.CutRange
import Derived.Deep.DeepCutAuto
import Derived.Deep.LoopGhost
import Derived.Laws.BitsAllLaws
import Derived.Deep.OwnRows
import Derived.Deep.RegionLaw
import Derived.Deep.AppendLies
import Derived.Test.YtdcajmeeeoofgaaGreatDoorFmbA06
open Go.Proofs.Tryz
set_option maxRecDepth 100000
set_option maxHeartbeats 16000000
namespace Go.Proofs.YtdcajmeeeoofgaaGreatDoor
section
open Go.RowKit
theorem ziT (k:Int) (d a b:Int) (l:List Int) (o:Option Addr) (len cap:Nat) (args regs:Int) (rest:Bool) (oc oa ok op:Option Addr) (lc cc la ca lk ck lp cp:Nat) (B:Nat) (w:World) (ha:-9223372036854775808≤a∧a≤9223372036854775807) (hv:SlC w B 1 IntR l (.slice o len cap)) (hB:B≤w.heap.size) (r:Bool) (hr:Unt.fits ⟨k,d,a,b,l⟩ regs lc lp lk=r) :
  Calls prog 27 #[.agg #[.int .i64 k,.int .i64 d,.int .i64 a,.int .i64 b,.slice o len cap],.agg #[.int .i64 args,.bool rest,.int .i64 regs,.slice oc lc cc,.slice oa la ca],.agg #[.slice ok lk ck,.slice op lp cp]] w fun e w'=>e=.returned (.bool r)∧Below w.heap.size w w':=by
 by_cases hk:k<0∨22<k
 ·exact zk3 k hk d a b l o len cap args regs rest oc oa ok op lc cc la ca lk ck lp cp B w ha hv hB r hr
 obtain ⟨n,rfl⟩:∃n:Nat,k=n:=⟨k.toNat,by omega⟩
 have hn:n≤22:=by omega
 clear hk
 match n,hn with
 | 0,_=>exact zmj d a b l o len cap args regs rest oc oa ok op lc cc la ca lk ck lp cp B w ha hv hB r hr
 | 1,_=>exact zmh d a b l o len cap args regs rest oc oa ok op lc cc la ca lk ck lp cp B w ha hv hB r hr
 | 2,_=>exact zl7 d a b l o len cap args regs rest oc oa ok op lc cc la ca lk ck lp cp B w ha hv hB r hr
 | 3,_=>exact zl5 d a b l o len cap args regs rest oc oa ok op lc cc la ca lk ck lp cp B w ha hv hB r hr
 | 4,_=>exact zmc d a b l o len cap args regs rest oc oa ok op lc cc la ca lk ck lp cp B w ha hv hB r hr
 | 5,_=>exact zmg d a b l o len cap args regs rest oc oa ok op lc cc la ca lk ck lp cp B w ha hv hB r hr
 | 6,_=>exact zl6 d a b l o len cap args regs rest oc oa ok op lc cc la ca lk ck lp cp B w ha hv hB r hr
 | 7,_=>exact zl1 d a b l o len cap args regs rest oc oa ok op lc cc la ca lk ck lp cp B w ha hv hB r hr
 | 8,_=>exact zmf d a b l o len cap args regs rest oc oa ok op lc cc la ca lk ck lp cp B w ha hv hB r hr
 | 9,_=>exact zme d a b l o len cap args regs rest oc oa ok op lc cc la ca lk ck lp cp B w ha hv hB r hr
 | 10,_=>exact zlQ d a b l o len cap args regs rest oc oa ok op lc cc la ca lk ck lp cp B w ha hv hB r hr
 | 11,_=>exact zkY d a b l o len cap args regs rest oc oa ok op lc cc la ca lk ck lp cp B w ha hv hB r hr
 | 12,_=>exact zk0 d a b l o len cap args regs rest oc oa ok op lc cc la ca lk ck lp cp B w ha hv hB r hr
 | 13,_=>exact zk4 d a b l o len cap args regs rest oc oa ok op lc cc la ca lk ck lp cp B w ha hv hB r hr
 | 14,_=>exact zkX d a b l o len cap args regs rest oc oa ok op lc cc la ca lk ck lp cp B w ha hv hB r hr
 | 15,_=>exact zlo d a b l o len cap args regs rest oc oa ok op lc cc la ca lk ck lp cp B w ha hv hB r hr
 | 16,_=>exact zlg d a b l o len cap args regs rest oc oa ok op lc cc la ca lk ck lp cp B w ha hv hB r hr
 | 17,_=>exact zlJ d a b l o len cap args regs rest oc oa ok op lc cc la ca lk ck lp cp B w ha hv hB r hr
 | 18,_=>exact zlO d a b l o len cap args regs rest oc oa ok op lc cc la ca lk ck lp cp B w ha hv hB r hr
 | 19,_=>exact zlL d a b l o len cap args regs rest oc oa ok op lc cc la ca lk ck lp cp B w ha hv hB r hr
 | 20,_=>exact zlv d a b l o len cap args regs rest oc oa ok op lc cc la ca lk ck lp cp B w ha hv hB r hr
 | 21,_=>exact zla d a b l o len cap args regs rest oc oa ok op lc cc la ca lk ck lp cp B w ha hv hB r hr
 | 22,_=>exact zk1 d a b l o len cap args regs rest oc oa ok op lc cc la ca lk ck lp cp B w ha hv hB r hr
 | n+23,h=>omega
end
section
open Go.RowKit
theorem zaV {W:World} {base n size:Nat} {e:TypeId} {v:Value} {xs:List Value} (h:W.ownsRow base e size v n xs) (a:Addr) (u:Value) (hne:∀g,v.ownBlock=some g→g≠a.block):(W.setCell a u).ownsRow base e size v n xs:=
 h.kept (row:=some a.block) ⟨rfl,rfl,rfl,by simp,fun k _ hk=>zag W a u (fun e=>hk (by rw[e]))⟩ (by
  cases hv:v.ownBlock with
  | none=>exact .inl rfl
  | some g=>exact .inr (fun e=>hne g hv (by simpa using e)))
theorem zco {W:World} {base base' n size:Nat} {e:TypeId} {v:Value} {xs:List Value} (h:W.ownsRow base e size v n xs) (hb:base'≤base):W.ownsRow base' e size v n xs:=by
 refine ⟨h.1,?_⟩
 rcases h.2 with h' | ⟨g,cap,cur,h1,h2,h3⟩
 ·exact .inl h'
 ·exact .inr ⟨g,cap,cur,h1,Nat.le_trans hb h2,h3⟩
end
section
namespace Trm
def sortB (op:Int):Bool:=[0,1,3,5,6,8,9,10,11,12,13,15,16,17,18,19,20,21,22].contains op
def countsB (op:Int) (nv nt:Nat):Bool:=
 if op=8∨op=9 then decide (nt=nv+1)
 else decide (nv=0)&&(if op=0∨op=1∨op=11∨op=13∨op=20∨op=21 then decide (nt=0)
  else if op=12∨op=15∨op=16 then decide (nt=1)
  else if op=17∨op=18 then decide (nt=2)
  else if op=3 then decide (nt=3)
  else if op=5∨op=6∨op=22 then decide (1≤nt)
  else true)
def numberB (nc nk:Int) (fr:Bool) (sc:Int→Bool) (op n:Int):Bool:=
 if op=0 then decide (0≤n)&&decide (n<nc)
 else if op=1 then sc n
 else if op=10∨op=11 then decide (0≤n)&&decide (n<31)
 else if op=19∨op=21∨op=22 then decide (0≤n)&&decide (n<nk)
 else if op=20 then decide (0≤n)&&fr
 else decide (n=0)
def addV (sc:Int→Bool) (v:List Int):Int→Bool:=fun x=>sc x || v.contains x
mutual
def wf (nc nk:Int) (fr:Bool):Trm→(Int→Bool)→Bool
 | mk op n v t,sc=>sortB op&&(countsB op v.length t.length&&(numberB nc nk fr sc op n&&wfL nc nk fr op v t sc))
def wfL (nc nk:Int) (fr:Bool):Int→List Int→List Trm→(Int→Bool)→Bool
 | _,_,[],_=>true
 | _,v,[x],sc=>wf nc nk fr x (addV sc v)
 | op,v,x::y::l,sc=>(if op=9 then decide (x.op=19)&&wf nc nk fr x (addV sc v) else wf nc nk fr x sc)&&wfL nc nk fr op v (y::l) sc
end
mutual
def bnd:Trm→List Int
 | mk _ _ v t=>v++bndL t
def bndL:List Trm→List Int
 | []=>[]
 | x::l=>bnd x++bndL l
end
def newB (S:Int→Bool):List Int→Bool
 | []=>true
 | x::l=>(decide (0≤x)&&(decide (x≤1000000) && !S x))&&newB (addV S [x]) l
end Trm
structure MSt where
 code:List Ins
 regs:Int
 vars:List (Int × Int)
namespace MSt
def put (s:MSt) (x:Ins):MSt:={ s with code:=s.code++[x] }
def fresh (s:MSt):MSt:={ s with regs:=s.regs+1 }
def setA (s:MSt) (k:Nat) (a:Int):MSt:={ s with code:=s.code.modify k fun x=>{ x with a:=a } }
def setB (s:MSt) (k:Nat) (b:Int):MSt:={ s with code:=s.code.modify k fun x=>{ x with b:=b } }
def len (s:MSt):Int:=s.code.length
def bind (s:MSt) (v r:List Int):MSt:={ s with vars:=s.vars++v.zip r }
end MSt
namespace Mk
def lkF:List (Int × Int)→Int→Int
 | [],_=>0
 | p::l,v=>if p.1=v then p.2 else lkF l v
def lkL:List (Int × Int)→Int→Int
 | [],_=>0
 | p::l,v=>if l.any (fun q=>q.1==v) then lkL l v else if p.1=v then p.2 else 0
def strict (op n d:Int) (l:List Int) (s:MSt):MSt:=
 if op=0 then s.put ⟨0,d,n,0,[]⟩
 else if op=11 then s.put ⟨2,d,n,0,[]⟩
 else if op=13 then s.put ⟨3,d,0,0,[]⟩
 else if op=21 then s.put ⟨5,d,n,0,[]⟩
 else if op=20 then s.put ⟨6,d,n,0,[]⟩
 else if op=5 then s.put ⟨17,d,l.headD 0,0,l.tail⟩
 else if op=22 then s.put ⟨18,d,n,l.headD 0,l.tail⟩
 else if op=10 then s.put ⟨9,d,n,0,l⟩
 else if op=19 then s.put ⟨7,d,n,0,l⟩
 else if op=12 then s.put ⟨14,d,l.headD 0,0,[]⟩
 else if op=15 then s.put ⟨10,d,l.headD 0,0,[]⟩
 else if op=16 then s.put ⟨11,d,l.headD 0,0,[]⟩
 else if op=17 then (s.put ⟨12,0,l.headD 0,l.tail.headD 0,[]⟩).put ⟨4,d,0,0,[]⟩
 else if op=18 then (s.put ⟨13,0,l.headD 0,l.tail.headD 0,[]⟩).put ⟨4,d,0,0,[]⟩
 else s
def ended (op n:Int) (l:List Int) (s:MSt):MSt:=
 if op=5 then s.put ⟨19,0,l.headD 0,0,l.tail⟩
 else if op=22 then s.put ⟨20,0,n,l.headD 0,l.tail⟩
 else s.put ⟨21,0,n,0,l⟩
def endsB (op n:Int):Bool:=decide (op=5) || (decide (op=22) || (decide (op=10)&&decide (29≤n)))
def hadW (lk:List (Int × Int)→Int→Int) (op n:Int) (f:Int→Bool→MSt→MSt) (s:MSt):Int × MSt:=
 if op=1 then (lk s.vars n,s) else (s.regs,f s.regs false s.fresh)
def fix1:List Int→List Trm→MSt→MSt
 | v::vs,x::l,s=>fix1 vs l ((s.fresh.bind [v] [s.regs]).put ⟨7,s.regs,x.n,0,[]⟩)
 | _,_,s=>s
def thens (f g:Int→Bool→MSt→MSt) (c d:Int) (e:Bool) (s:MSt):MSt:=
 let s1:=s.put ⟨16,0,c,0,[]⟩
 let s2:=f d e s1
 let s3:=if e then s2 else s2.put ⟨15,0,0,0,[]⟩
 let s4:=s3.setB s.code.length s3.len
 let s5:=g d e s4
 if e then s5 else s5.setA s2.code.length s5.len
mutual
def into (lk:List (Int × Int)→Int→Int):Trm→Int→Bool→MSt→MSt
 | .mk op n v t,d,e,s=>
  if op=3 then choice lk t d e s
  else if op=6 then seqs lk t d e s
  else if op=8 then lets lk t v [] d e s
  else if op=9 then fixs lk t v d e (fix1 v t s)
  else if e then
   if endsB op n then let p:=allT lk t s;ended op n p.1 p.2
   else if op=1 then s.put ⟨22,0,lk s.vars n,0,[]⟩
   else let p:=allT lk t s.fresh;(strict op n s.regs p.1 p.2).put ⟨22,0,s.regs,0,[]⟩
  else if op=1 then s.put ⟨1,d,lk s.vars n,0,[]⟩
  else let p:=allT lk t s;strict op n d p.1 p.2
def choice (lk:List (Int × Int)→Int→Int):List Trm→Int→Bool→MSt→MSt
 | [a,b,c],d,e,s=>let p:=hadW lk a.op a.n (into lk a) s;thens (into lk b) (into lk c) p.1 d e p.2
 | _,_,_,s=>s
def allT (lk:List (Int × Int)→Int→Int):List Trm→MSt→List Int × MSt
 | [],s=>([],s)
 | x::l,s=>let p:=hadW lk x.op x.n (into lk x) s;let q:=allT lk l p.2;(p.1::q.1,q.2)
def seqs (lk:List (Int × Int)→Int→Int):List Trm→Int→Bool→MSt→MSt
 | [],_,_,s=>s
 | [x],d,e,s=>into lk x d e s
 | x::y::l,d,e,s=>let p:=hadW lk x.op x.n (into lk x) s;seqs lk (y::l) d e p.2
def lets (lk:List (Int × Int)→Int→Int):List Trm→List Int→List Int→Int→Bool→MSt→MSt
 | [],_,_,_,_,s=>s
 | [x],v,rs,d,e,s=>into lk x d e (s.bind v rs)
 | x::y::l,v,rs,d,e,s=>let p:=hadW lk x.op x.n (into lk x) s;lets lk (y::l) v (rs++[p.1]) d e p.2
def fixs (lk:List (Int × Int)→Int→Int):List Trm→List Int→Int→Bool→MSt→MSt
 | [],_,_,_,s=>s
 | [x],_,d,e,s=>into lk x d e s
 | .mk _ _ _ t::y::l,v,d,e,s=>let p:=allT lk t s;fixs lk (y::l) v.tail d e (p.2.put ⟨8,0,lk p.2.vars (v.headD 0),0,p.1⟩)
end
def had (lk:List (Int × Int)→Int→Int) (x:Trm) (s:MSt):Int × MSt:=hadW lk x.op x.n (into lk x) s
def proc (lk:List (Int × Int)→Int→Int) (c:Cod):Proc:=
 let s:=into lk c.body 0 true ⟨[],c.v.length,c.v.zip ((List.range c.v.length).map fun (i:Nat)=>(i:Int))⟩
 ⟨c.v.length,c.rest,s.regs,s.code,[]⟩
end Mk
namespace Mdl
def codesB (nc nk:Int):List Cod→(Int→Bool)→Bool
 | [],_=>true
 | c::l,B=>(!c.rest || decide (0<c.v.length))&&(Trm.newB B (c.v++c.body.bnd)&&(c.body.wf nc nk true (Trm.addV (fun _=>false) c.v)&&codesB nc nk l (Trm.addV B (c.v++c.body.bnd))))
def okB (m:Mdl):Bool:=(m.consts.all fun x=>Dat.right x 0)&&((m.body.wf m.consts.length m.codes.length false (fun _=>false)&&Trm.newB (fun _=>false) m.body.bnd)&&codesB m.consts.length m.codes.length m.codes (Trm.addV (fun _=>false) m.body.bnd))
def unit (lk:List (Int × Int)→Int→Int) (m:Mdl):Unt:=⟨m.consts,m.codes.map (Mk.proc lk)++[Mk.proc lk ⟨[],false,m.body⟩]⟩
def makeErr (lk:List (Int × Int)→Int→Int) (m:Mdl):Int:=if m.okB&&(m.unit lk).okB then 0 else 5
def makeU (lk:List (Int × Int)→Int→Int) (m:Mdl):Unt:=if m.okB&&(m.unit lk).okB then m.unit lk else ⟨[],[]⟩
end Mdl
end
section
open Go.RowKit
theorem zli (k d a b:Int) (l:List Int) (o:Option Addr) (len cap:Nat) (B:Nat) (w:World) (hk:-9223372036854775808≤k∧k≤9223372036854775807) (hd:-9223372036854775808≤d∧d≤9223372036854775807) (ha:-9223372036854775808≤a∧a≤9223372036854775807) (hb:-9223372036854775808≤b∧b≤9223372036854775807) (hv:SlC w B 1 IntR l (.slice o len cap)) (hB:B≤w.heap.size) (hmx:l.length≤1000000) (h0:0≤k) (h1:k≤22) (r:Bool) (hr:Unt.bare ⟨k,d,a,b,l⟩=r) :
  Calls prog 83 #[.agg #[.int .i64 k,.int .i64 d,.int .i64 a,.int .i64 b,.slice o len cap]] w fun e w'=>e=.returned (.bool r)∧Below w.heap.size w w':=by
 obtain ⟨g,hg⟩:∃g,Unt.gives ⟨k,d,a,b,l⟩=g:=⟨_,rfl⟩
 obtain ⟨q1,hq1⟩:∃q1,(decide (g<0)&&decide (d≠0))=q1:=⟨_,rfl⟩
 obtain ⟨q2,hq2⟩:∃q2,(decide (a≠0)&&(decide (k=3) || decide (k=4)))=q2:=⟨_,rfl⟩
 obtain ⟨q3,hq3⟩:∃q3,(decide (b≠0)&&(decide (k≠12)&&(decide (k≠13)&&(decide (k≠16)&&(decide (k≠18)&&decide (k≠20))))))=q3:=⟨_,rfl⟩
 obtain ⟨q4,hq4⟩:∃q4,(decide (l.length=0) || ((decide (7≤k)&&decide (k≤9)) || (decide (17≤k)&&decide (k≤21))))=q4:=⟨_,rfl⟩
 have HR:=zh (show (!q1&&(!q2&&(!q3&&q4)))=r from by rw[←hr,Unt.bare,hg,←hq1,←hq2,←hq3,←hq4])
 have Hq1:=zh hq1
 have Hq2:=zh hq2
 have Hq3:=zh hq3
 have Hq4:=zh hq4
 have HGV:=zh hg
 obtain ⟨hlen,hcap,hmax⟩:=hv.lens
 have HL:=zh hlen
 have HC:=zh (fun X=>zea ⟨k,d,a,b,l⟩ _ _ _ _ _ B (w.alloc X) ⟨.slice o len cap,rfl,hk,hd,ha,hb,hv.kept ((Below.one w X).mono hB) fun _ _ _ h=>h⟩ (by simp;omega) hmx h0 h1)
 clear hr hv hg hlen hq1 hq2 hq3 hq4
 go_enter func83,ntmps83
 go_wp2_with fail
 refine (HC.out _).mono ?_
 rintro e w1 ⟨sl,rfl,_,hb1⟩
 rw[HGV.out]
 have bx:BoxL w1 w.heap.size 49 [.int .i64 k,.int .i64 d,.int .i64 a,.int .i64 b,.slice o len cap]:=(BoxL.new rfl _ _).keep hb1
 have x0:=bx.cell 0 rfl
 have x1:=bx.cell 1 rfl
 have x2:=bx.cell 2 rfl
 have x3:=bx.cell 3 rfl
 have x4:=bx.cell 4 rfl
 have HB1:=zh (zaY hb1)
 clear hb1 bx HC
 go_upto_region 2 with fail
 go_cut [16] (fun c wx=>c=.bool q1∧w1=wx)
 case first=>as_aux_lemma=>
  by_cases hg:g<0
  ·have f1:decide (g<0)=true:=decide_eq_true hg
   by_cases hd0:d=0
   ·subst hd0
    obtain rfl:q1=false:=by rw[←Hq1.out];simp
    go_wp2_with fail
    go_meet
    exact ⟨rfl,rfl⟩
   ·have f2:(d != 0)=true:=by simpa using hd0
    obtain rfl:q1=true:=by rw[←Hq1.out];simp[hg,hd0]
    go_wp2_with fail
    go_meet
    exact ⟨rfl,rfl⟩
  ·have f1:decide (g<0)=false:=decide_eq_false hg
   obtain rfl:q1=false:=by rw[←Hq1.out];simp[hg]
   go_wp2_with fail
   go_meet
   exact ⟨rfl,rfl⟩
 case rest=>
  obtain ⟨rfl,rfl⟩:=hcut
  cases q1 with
  | true=>
   obtain rfl:r=false:=by rw[←HR.out];simp
   go_wp2_with fail
   go_ret
   exact ⟨rfl,HB1.out⟩
  | false=>
   go_upto_region 4 with fail
   go_cut [29] (fun c wx=>c=.bool q2∧w1=wx)
   case first=>as_aux_lemma=>
    by_cases ha0:a=0
    ·subst ha0
     obtain rfl:q2=false:=by rw[←Hq2.out];simp
     go_wp2_with fail
     go_meet
     exact ⟨rfl,rfl⟩
    have f2:(a != 0)=true:=by simpa using ha0
    by_cases k3:k=3
    ·subst k3
     obtain rfl:q2=true:=by rw[←Hq2.out];simp[ha0]
     go_wp2_with fail
     go_meet
     exact ⟨rfl,rfl⟩
    have f3:(k==3)=false:=by simpa using k3
    by_cases k4:k=4
    ·subst k4
     obtain rfl:q2=true:=by rw[←Hq2.out];simp[ha0]
     go_wp2_with fail
     go_meet
     exact ⟨rfl,rfl⟩
    have f4:(k==4)=false:=by simpa using k4
    obtain rfl:q2=false:=by rw[←Hq2.out];simp[k3,k4]
    go_wp2_with fail
    go_meet
    exact ⟨rfl,rfl⟩
   case rest=>
    obtain ⟨rfl,rfl⟩:=hcut
    cases q2 with
    | true=>
     obtain rfl:r=false:=by rw[←HR.out];simp
     go_wp2_with fail
     go_ret
     exact ⟨rfl,HB1.out⟩
    | false=>
     go_upto_region 6 with fail
     go_cut [57] (fun c wx=>c=.bool q3∧w1=wx)
     case first=>as_aux_lemma=>
      by_cases hb0:b=0
      ·subst hb0
       obtain rfl:q3=false:=by rw[←Hq3.out];simp
       go_wp2_with fail
       go_meet
       exact ⟨rfl,rfl⟩
      have f2:(b != 0)=true:=by simpa using hb0
      by_cases k12:k=12
      ·subst k12
       obtain rfl:q3=false:=by rw[←Hq3.out];simp
       go_wp2_with fail
       go_meet
       exact ⟨rfl,rfl⟩
      have f12:(k != 12)=true:=by simpa using k12
      by_cases k13:k=13
      ·subst k13
       obtain rfl:q3=false:=by rw[←Hq3.out];simp
       go_wp2_with fail
       go_meet
       exact ⟨rfl,rfl⟩
      have f13:(k != 13)=true:=by simpa using k13
      by_cases k16:k=16
      ·subst k16
       obtain rfl:q3=false:=by rw[←Hq3.out];simp
       go_wp2_with fail
       go_meet
       exact ⟨rfl,rfl⟩
      have f16:(k != 16)=true:=by simpa using k16
      by_cases k18:k=18
      ·subst k18
       obtain rfl:q3=false:=by rw[←Hq3.out];simp
       go_wp2_with fail
       go_meet
       exact ⟨rfl,rfl⟩
      have f18:(k != 18)=true:=by simpa using k18
      by_cases k20:k=20
      ·subst k20
       obtain rfl:q3=false:=by rw[←Hq3.out];simp
       go_wp2_with fail
       go_meet
       exact ⟨rfl,rfl⟩
      have f20:(k != 20)=true:=by simpa using k20
      obtain rfl:q3=true:=by rw[←Hq3.out];simp[hb0,k12,k13,k16,k18,k20]
      go_wp2_with fail
      go_meet
      exact ⟨rfl,rfl⟩
     case rest=>
      obtain ⟨rfl,rfl⟩:=hcut
      cases q3 with
      | true=>
       obtain rfl:r=false:=by rw[←HR.out];simp
       go_wp2_with fail
       go_ret
       exact ⟨rfl,HB1.out⟩
      | false=>
       obtain rfl:q4=r:=by rw[←HR.out];simp
       by_cases hl0:len=0
       ·subst hl0
        obtain rfl:q4=true:=by rw[←Hq4.out,decide_eq_true (show l.length=0 from HL.out.symm)];rfl
        go_wp2_with fail
        go_ret
        exact ⟨rfl,HB1.out⟩
       have hl0':(len==0)=false:=by simpa using hl0
       have hl1:¬l.length=0:=by rw[←HL.out];exact hl0
       have hl2:((len:Int)==0)=false:=by simpa using hl0
       rw[decide_eq_false hl1] at Hq4
       clear hl1
       by_cases k7:7≤k
       ·have f7:decide (7≤k)=true:=decide_eq_true k7
        by_cases k9:k≤9
        ·have f9:decide (k≤9)=true:=decide_eq_true k9
         obtain rfl:q4=true:=by rw[←Hq4.out];simp[k7,k9]
         go_wp2_with fail
         go_ret
         exact ⟨rfl,HB1.out⟩
        have f9:decide (k≤9)=false:=decide_eq_false k9
        by_cases k17:17≤k
        ·have f17:decide (17≤k)=true:=decide_eq_true k17
         by_cases k21:k≤21
         ·have f21:decide (k≤21)=true:=decide_eq_true k21
          obtain rfl:q4=true:=by rw[←Hq4.out];simp[k17,k21]
          go_wp2_with fail
          go_ret
          exact ⟨rfl,HB1.out⟩
         ·have f21:decide (k≤21)=false:=decide_eq_false k21
          obtain rfl:q4=false:=by rw[←Hq4.out];simp[k9,k21]
          go_wp2_with fail
          go_ret
          exact ⟨rfl,HB1.out⟩
        ·have f17:decide (17≤k)=false:=decide_eq_false k17
         obtain rfl:q4=false:=by rw[←Hq4.out];simp[k9,k17]
         go_wp2_with fail
         go_ret
         exact ⟨rfl,HB1.out⟩
       ·have f7:decide (7≤k)=false:=decide_eq_false k7
        have k17:¬17≤k:=by omega
        have f17:decide (17≤k)=false:=decide_eq_false k17
        obtain rfl:q4=false:=by rw[←Hq4.out];simp[k7,k17]
        go_wp2_with fail
        go_ret
        exact ⟨rfl,HB1.out⟩
end
section
open Go Go.RowKit
namespace Trm
mutual
def few:Trm→Int→Int
 | mk _ _ _ t,left=>fewL t (left-1)
def fewL:List Trm→Int→Int
 | [],c=>c
 | x::l,c=>if 0≤c then fewL l (few x c) else c
end
theorem fewL_neg (l:List Trm) {c:Int} (hc:¬0≤c):fewL l c=c:=by
 cases l with
 | nil=>rfl
 | cons x l=>rw[fewL,if_neg hc]
theorem all_ge:∀x:Trm,1≤x.all
 | mk _ _ _ t=>by rw[all];omega
theorem zkI (x:Trm):∀c:Int,0≤c→few x c=if (x.all:Int)≤c then c-x.all else -1:=by
 have hL:∀l:List Trm,(∀x∈l,∀c:Int,0≤c→few x c=if (x.all:Int)≤c then c-x.all else -1)→∀c:Int, -1≤c→fewL l c=if (allL l:Int)≤c then c-allL l else -1:=by
  intro l
  induction l with
  | nil=>
   intro _ c hc
   rw[fewL,allL]
   split
   ·simp
   ·omega
  | cons x l ih=>
   intro hx c hc
   have hp:=x.all_ge
   by_cases h0:0≤c
   ·rw[fewL,if_pos h0,hx x (by simp) c h0,ih (fun y hy=>hx y (by simp[hy])) _ (by split<;>omega),allL]
    split<;>split<;>(try split)<;>omega
   ·rw[fewL,if_neg h0,allL,if_neg (by omega)]
    omega
 induction x using Trm.ind with
 | _ o n v t ih=>
  intro c hc
  rw[few,hL t ih _ (by omega),all]
  split<;>split<;>omega
theorem few_range (x:Trm) {c:Int} (hc:0≤c):-1≤few x c∧few x c≤c:=by
 rw[zkI x c hc]
 have:=x.all_ge
 split<;>omega
theorem fewL_step {l:List Trm} {i:Nat} {x:Trm} {c:Int} (h:l[i]?=some x) (hc:0≤c):fewL (l.drop i) c=fewL (l.drop (i+1)) (few x c):=by
 have e:l.drop i=x::l.drop (i+1):=by
  obtain ⟨hi,he⟩:=List.getElem?_eq_some_iff.1 h
  rw[←he];exact List.drop_eq_getElem_cons hi
 rw[e,fewL,if_pos hc]
theorem few_ge0 (x:Trm) {c:Int} (hc:0≤c):decide (0≤few x c)=decide ((x.all:Int)≤c):=by
 rw[zkI x c hc,decide_eq_decide]
 split<;>omega
theorem allL_take:∀(l:List Trm) (j:Nat) (x:Trm),l[j]?=some x→allL (l.take (j+1))=allL (l.take j)+x.all
 | [],j,x,h=>by simp at h
 | y::l,0,x,h=>by
  simp only[List.getElem?_cons_zero,Option.some.injEq] at h
  subst h
  simp[allL]
 | y::l,j+1,x,h=>by
  have:=allL_take l j x (by simpa using h)
  simp only[List.take_succ_cons,allL]
  omega
theorem allL_take_le:∀(l:List Trm) (j:Nat),allL (l.take j)≤allL l
 | [],j=>by simp
 | y::l,0=>by simp[allL]
 | y::l,j+1=>by
  have:=allL_take_le l j
  simp only[List.take_succ_cons,allL]
  omega
end Trm
theorem zcL {w:World} {B:Nat} {o n:Int} {v:List Int} {t:List Trm} {c0 c1 c2 c3:Value} (h:TrmR w B (.mk o n v t) [c0,c1,c2,c3]):∃vs q len cap,c0=.int .i64 o∧c1=.int .i64 n∧c2=vs∧c3=.slice q len cap∧SlC w B 4 (TrmR w B) t (.slice q len cap)∧SlC w B 1 IntR v vs∧len=t.length∧len≤9223372036854775807:=by
 obtain ⟨vs,ts,he,_,_,h3,h4⟩:=zas.1 h
 simp only[List.cons.injEq,and_true] at he
 obtain ⟨rfl,rfl,rfl,rfl⟩:=he
 obtain ⟨q,len,cap,rfl⟩:=h4.form
 have:=h4.lens
 exact ⟨_,_,_,_,rfl,rfl,rfl,rfl,h4,h3,this.1,by omega⟩
theorem zfl {W:World} {B:Nat} {x:Trm} {c0 c1 c2 c3:Value} (h:TrmR W B x [c0,c1,c2,c3]):∃q r u q' r' u',c0=.int .i64 x.op∧c1=.int .i64 x.n∧c2=.slice q r u∧c3=.slice q' r' u':=by
 obtain ⟨o,n,v,t⟩:=x
 obtain ⟨vs,ts,he,_,_,h3,h4⟩:=zas.1 h
 simp only[List.cons.injEq,and_true] at he
 obtain ⟨rfl,rfl,rfl,rfl⟩:=he
 obtain ⟨q,r,u,rfl⟩:=h3.form
 obtain ⟨q',r',u',rfl⟩:=h4.form
 exact ⟨_,_,_,_,_,_,rfl,rfl,rfl,rfl⟩
theorem zko (x:Trm):∀(c0 c1 c2 c3:Value) (left:Int) (B:Nat) (w:World),TrmR w B x [c0,c1,c2,c3]→B≤w.heap.size→0≤left→left≤100000 →
  Calls prog 29 #[.agg #[c0,c1,c2,c3],.int .i64 left] w fun e w'=>e=.returned (.int .i64 (Trm.few x left))∧Below w.heap.size w w':=by
 induction x using Trm.ind with
 | _ o n v t ih=>
  intro c0 c1 c2 c3 left B w hv hB h0 h1
  obtain ⟨vs,q,len,cap,rfl,rfl,rfl,rfl,hs,_,hlen,hmx⟩:=zcL hv
  obtain ⟨W1,hW1⟩:∃W1,w.alloc (.cells #[.int .i64 o,.int .i64 n,c2,.slice q len cap] 27)=W1:=⟨_,rfl⟩
  have HB1:=zh (show Below w.heap.size w W1 from by rw[←hW1];exact Below.one w _)
  have HX1:=zh (show BoxL W1 w.heap.size 27 [.int .i64 o,.int .i64 n,c2,.slice q len cap] from by rw[←hW1];exact BoxL.new rfl _ _)
  have IH:=zh ih
  have HS:=zh hs
  have HL:=zh hlen
  have HW:=zh hW1
  clear ih hv hs hlen hW1
  go_enter func29,ntmps29
  go_upto_region 1 with fail
  rw[HW.out]
  go_wp2
  go_loopg [1,5] len (fun g a i wr=>∃(cur:Int) (j:Nat),g=len-j∧a=.int .i64 cur∧i=.int .i64 j∧j≤len∧-1≤cur∧cur≤100000∧Hid (Trm.fewL (t.drop j) cur=Trm.fewL t (left-1))∧Hid (Below W1.heap.size W1 wr))
  case atStart=>exact ⟨left-1,0,rfl,rfl,rfl,by omega,by omega,by omega,zh rfl,zh (Below.refl _ _)⟩
  case round=>
   obtain ⟨cur,j,rfl,rfl,rfl,hj,hc1,hc2,HF,HBR⟩:=hrel
   have HXR:=zh (HX1.out.keep HBR.out)
   have HBW:=zh (HB1.out.trans (HBR.out.mono HB1.out.size))
   have b3:=HXR.out.cell 3 rfl
   have bl:=HXR.out.lt
   by_cases hjl:j<len
   ·by_cases hcur:0≤cur
    ·obtain ⟨x,hx⟩:∃x,t[j]?=some x:=⟨_,List.getElem?_eq_getElem (by rw[←HL.out];exact hjl)⟩
     obtain ⟨b,off,cs,ho,_,hcl,hcell,hir⟩:=SlC.at HS.out (HBW.out.mono hB) hx
     subst ho
     match cs,hcl with
     | [d0,d1,d2,d3],_=>
      have e0:=hcell 0 _ rfl
      have e1:=hcell 1 _ rfl
      have e2:=hcell 2 _ rfl
      have e3:=hcell 3 _ rfl
      simp only[Nat.add_zero] at e0
      have HX:=zh hx
      have hg:=Trm.few_range x hcur
      have HF2:=zh ((Trm.fewL_step hx hcur).symm.trans HF.out)
      have HCC:=zh (IH.out x (List.mem_of_getElem? hx) d0 d1 d2 d3 cur B wr (TrmR.kept (HBW.out.mono hB) _ _ hir) (by have:=HBW.out.size;omega) hcur hc2)
      obtain ⟨y,hy⟩:∃y,Trm.few x cur=y:=⟨_,rfl⟩
      rw[hy] at hg HF2 HCC
      clear hx hir hcell hy
      go_wp2_with fail
      with_reducible refine HCC.out.mono ?_
      rintro e w1 ⟨rfl,hb1⟩
      have HBN:=zh (HBR.out.trans (hb1.mono HBR.out.size))
      clear hb1 HCC
      go_wp2_with fail
      go_roundg (len-(j+1))
      case measure=>omega
      case rel=>exact ⟨y,j+1,rfl,rfl,by go_num,by omega,by omega,by omega,HF2,HBN⟩
    ·have HR:=zh (show Trm.fewL t (left-1)=cur by rw[←HF.out,Trm.fewL_neg _ hcur])
     go_wp2
     go_ret
     exact ⟨zbj (by rw[Trm.few];exact HR.out.symm),HBW.out⟩
   ·have HR:=zh (show Trm.fewL t (left-1)=cur by
     rw[←HF.out,List.drop_eq_nil_of_le (by rw[←HL.out];omega)];rfl)
    go_wp2
    go_ret
    exact ⟨zbj (by rw[Trm.few];exact HR.out.symm),HBW.out⟩
theorem zfw (x:Trm) (c0 c1 c2 c3:Value) (left:Int) (B:Nat) (w:World) (hv:TrmR w B x [c0,c1,c2,c3]) (hB:B≤w.heap.size) (h0:0≤left) (h1:left≤100000) :
  Calls prog 11 #[.agg #[c0,c1,c2,c3],.int .i64 left] w fun e w'=>e=.returned (.bool (decide ((x.all:Int)≤left)))∧Below w.heap.size w w':=by
 have HD:=zh (Trm.few_ge0 x h0)
 have HCC:=zh (zko x c0 c1 c2 c3 left B (w.alloc (.cells #[c0,c1,c2,c3] 27)) (TrmR.kept ((Below.one w _).mono hB) _ _ hv) (by simp;omega) h0 h1)
 obtain ⟨o,n,v,t⟩:=x
 obtain ⟨vs,q,len,cap,rfl,rfl,rfl,rfl,hs,_,hlen,hmx⟩:=zcL hv
 obtain ⟨oo,ll,cc,rfl⟩:∃oo ll cc,c2=.slice oo ll cc:=by
  obtain ⟨vs',ts,he,_,_,h3,_⟩:=zas.1 hv
  simp only[List.cons.injEq,and_true] at he
  obtain ⟨_,_,rfl,_⟩:=he
  exact h3.form
 obtain ⟨y,hy⟩:∃y,Trm.few (.mk o n v t) left=y:=⟨_,rfl⟩
 rw[hy] at HD HCC
 clear hv hs hlen hmx hy
 go_enter func11,ntmps11
 go_wp2_with fail
 with_reducible refine HCC.out.mono ?_
 rintro e' w1 ⟨rfl,hb1⟩
 go_wp2_with fail
 go_ret
 exact ⟨by rw[←HD.out];rfl,(Below.one w _).trans (hb1.mono (by simp))⟩
theorem ziu (x:Trm):∀(c0 c1 c2 c3:Value) (deep:Int) (B:Nat) (w:World),TrmR w B x [c0,c1,c2,c3]→B≤w.heap.size→0≤deep→deep+x.all≤1000 →
  Calls prog 30 #[.agg #[c0,c1,c2,c3],.int .i64 deep] w fun e w'=>e=.returned (.int .i64 x.all)∧Below w.heap.size w w':=by
 induction x using Trm.ind with
 | _ o n v t ih=>
  intro c0 c1 c2 c3 deep B w hv hB h0 h1
  obtain ⟨vs,q,len,cap,rfl,rfl,rfl,rfl,hs,_,hlen,hmx⟩:=zcL hv
  obtain ⟨W1,hW1⟩:∃W1,w.alloc (.cells #[.int .i64 o,.int .i64 n,c2,.slice q len cap] 27)=W1:=⟨_,rfl⟩
  have HB1:=zh (show Below w.heap.size w W1 from by rw[←hW1];exact Below.one w _)
  have HX1:=zh (show BoxL W1 w.heap.size 27 [.int .i64 o,.int .i64 n,c2,.slice q len cap] from by rw[←hW1];exact BoxL.new rfl _ _)
  rw[Trm.all] at h1 ⊢
  have IH:=zh ih
  have HS:=zh hs
  have HL:=zh hlen
  have HW:=zh hW1
  clear ih hv hs hlen hW1
  go_enter func30,ntmps30
  go_upto_region 1 with fail
  rw[HW.out]
  go_wp2
  go_loopg [5,6] len (fun g a i wr=>∃j:Nat,g=len-j∧a=.int .i64 ((1+Trm.allL (t.take j):Nat):Int)∧i=.int .i64 j∧j≤len∧Hid (Below W1.heap.size W1 wr))
  case atStart=>exact ⟨0,rfl,by rw[List.take_zero,Trm.allL];rfl,rfl,by omega,zh (Below.refl _ _)⟩
  case round=>
   obtain ⟨j,rfl,rfl,rfl,hj,HBR⟩:=hrel
   have HXR:=zh (HX1.out.keep HBR.out)
   have HBW:=zh (HB1.out.trans (HBR.out.mono HB1.out.size))
   have b3:=HXR.out.cell 3 rfl
   have bl:=HXR.out.lt
   have hle:=Trm.allL_take_le t j
   by_cases hjl:j<len
   ·obtain ⟨x,hx⟩:∃x,t[j]?=some x:=⟨_,List.getElem?_eq_getElem (by rw[←HL.out];exact hjl)⟩
    obtain ⟨b,off,cs,ho,_,hcl,hcell,hir⟩:=SlC.at HS.out (HBW.out.mono hB) hx
    subst ho
    match cs,hcl with
    | [d0,d1,d2,d3],_=>
     have e0:=hcell 0 _ rfl
     have e1:=hcell 1 _ rfl
     have e2:=hcell 2 _ rfl
     have e3:=hcell 3 _ rfl
     simp only[Nat.add_zero] at e0
     have hle2:=Trm.allL_take_le t (j+1)
     have hst:=Trm.allL_take t j x hx
     have hm:=Trm.allL_mem (List.mem_of_getElem? hx)
     have hap:=x.all_ge
     have hd:deep<1000:=by omega
     have HCC:=zh (IH.out x (List.mem_of_getElem? hx) d0 d1 d2 d3 (deep+1) B wr (TrmR.kept (HBW.out.mono hB) _ _ hir) (by have:=HBW.out.size;omega) (by omega) (by omega))
     have HST:=zh hst
     clear hx hir hcell hst
     obtain ⟨N,hN⟩:∃N,Trm.allL (t.take j)=N:=⟨_,rfl⟩
     obtain ⟨M,hM⟩:∃M,x.all=M:=⟨_,rfl⟩
     rw[hN,hM] at HST
     rw[hM] at HCC hm hap
     rw[HST.out] at hle2
     rw[hN] at hle ⊢
     clear hN hM
     go_wp2_with fail
     with_reducible refine HCC.out.mono ?_
     rintro e w1 ⟨rfl,hb1⟩
     have HBN:=zh (HBR.out.trans (hb1.mono HBR.out.size))
     clear hb1 HCC
     go_wp2_with fail
     go_roundg (len-(j+1))
     case measure=>omega
     case rel=>exact ⟨j+1,rfl,by rw[HST.out];go_num,by go_num,by omega,HBN⟩
   ·obtain rfl:j=len:=by omega
    have HT:=zh (show t.take j=t from List.take_of_length_le (by rw[←HL.out];exact Nat.le_refl _))
    rw[HT.out]
    go_wp2
    go_ret
    exact ⟨rfl,HBW.out⟩
theorem zee (x:Trm) (c0 c1 c2 c3:Value) (B:Nat) (w:World) (hv:TrmR w B x [c0,c1,c2,c3]) (hB:B≤w.heap.size) (h1:x.all≤1000) :
  Calls prog 12 #[.agg #[c0,c1,c2,c3]] w fun e w'=>e=.returned (.int .i64 x.all)∧Below w.heap.size w w':=by
 have HCC:=zh (ziu x c0 c1 c2 c3 0 B (w.alloc (.cells #[c0,c1,c2,c3] 27)) (TrmR.kept ((Below.one w _).mono hB) _ _ hv) (by simp;omega) (by omega) (by omega))
 obtain ⟨o,n,v,t⟩:=x
 obtain ⟨vs',ts,he,_,_,h3,h4⟩:=zas.1 hv
 simp only[List.cons.injEq,and_true] at he
 obtain ⟨rfl,rfl,rfl,rfl⟩:=he
 obtain ⟨oo,ll,cc,rfl⟩:=h3.form
 obtain ⟨o2,l2,k2,rfl⟩:=h4.form
 obtain ⟨N,hN⟩:∃N,(Trm.mk o n v t).all=N:=⟨_,rfl⟩
 rw[hN] at HCC ⊢
 clear hv h3 h4 hN h1
 go_enter func12,ntmps12
 go_wp2_with fail
 with_reducible refine HCC.out.mono ?_
 rintro e' w1 ⟨rfl,hb1⟩
 go_wp2_with fail
 go_ret
 exact ⟨rfl,(Below.one w _).trans (hb1.mono (by simp))⟩
end
section
open Go Go.RowKit Go.Deep Go.ChangeShapes Go.WideShapes Go.ChangeAt
mutual
def Trm.short:Trm→Prop
 | .mk _ _ v t=>v.length*8≤140737488351232∧Trm.shortL t
def Trm.shortL:List Trm→Prop
 | []=>True
 | x::l=>Trm.short x∧Trm.shortL l
end
def Cod.short (c:Cod):Prop:=c.v.length*8≤140737488351232∧c.body.short
def Mdl.short (m:Mdl):Prop:=(∀c∈m.codes,c.short)∧m.body.short
theorem SlC.both {α:Type} {w:World} {B size:Nat} {R:α→List Value→Prop} {Q:α→Prop} {l:List α} {v:Value} (h:SlC w B size (fun x cs=>R x cs∧Q x) l v):SlC w B size R l v∧∀x∈l,Q x:=by
 obtain ⟨o,len,cap,rfl,h1,h2,h3,h4⟩:=h
 cases o with
 | none=>exact ⟨⟨none,len,cap,rfl,h1,h2,h3,h4⟩,fun x hx=>by rw[h4.1] at hx;cases hx⟩
 | some a=>
  refine ⟨⟨some a,len,cap,rfl,h1,h2,h3,h4.1,fun i x hx=>?_⟩,fun x hx=>?_⟩
  ·obtain ⟨cs,g1,g2,g3⟩:=h4.2 i x hx
   exact ⟨cs,g1,g2,g3.1⟩
  ·obtain ⟨i,hi⟩:=List.getElem?_of_mem hx
   obtain ⟨cs,g1,g2,g3⟩:=h4.2 i x hi
   exact g3.2
section
variable {H : Type} {enc : TypeId × Value → H}
theorem zbN {w:World} {ts te:TypeId} {bs:Nat} (hu:prog.underlying ts=some (.slice te)) (hbs:prog.bytesOf te=bs) {fuel:Nat} {o:Option Addr} {len cap:Nat} {x4:DataW H × List MemPlace} (g4:DataW.trod enc prog w 0 (fun _=>true) true fuel ts [.slice o len cap]=some x4) (w4:∀n∈x4.1.weights prog ts,n≤reachBytes):len*bs≤140737488351232:=by
 rcases DataW.trod_slice hu g4 with ⟨e4,_⟩ | ⟨a,len2,cap2,elems,rest,n',rfl,e4,hx4,_,hle,_,hel2,hget4,hsp,_⟩
 ·simp only[List.cons.injEq,Value.slice.injEq,and_true] at e4
  obtain ⟨_,rfl,_⟩:=e4
  omega
 ·simp only[List.cons.injEq,Value.slice.injEq,and_true] at e4
  obtain ⟨_,rfl,rfl⟩:=e4
  subst hx4
  have:=w4 ((elems.length+rest.length)*bs) (by simp[DataW.weights,hu,hbs])
  have h9:(elems.length+rest.length)*bs≤140737488351232:=this
  have h10:len*bs≤(elems.length+rest.length)*bs:=Nat.mul_le_mul_right _ (by omega)
  omega
end
end
section
open Go.RowKit
theorem zdu (x:Dat) (v:Value) (B:Nat) (w:World) (r:Bool) (hr:Dat.right x 0=r) (hv:RepD w B x v) (hB:B≤w.heap.size) :
  Calls prog 24 #[v] w fun e w'=>e=.returned (.bool r)∧Below w.heap.size w w':=by
 rw[←hr];exact zf8 x v B w hv hB
theorem ziC (x:Dat) (v:Value) (B:Nat) (w:World) (hv:RepD w B x v) (hB:B≤w.heap.size) :
  Calls prog 23 #[v] w fun e w'=>e=.returned (.bool (!Dat.right x 0))∧Below w.heap.size w w':=by
 obtain ⟨k,n,d,s,o,len,cap,rfl⟩:=zhV hv
 obtain ⟨r,hr⟩:∃r,Dat.right x 0=r:=⟨_,rfl⟩
 rw[hr]
 have HC:=zh (fun X=>zdu x _ B (w.alloc X) r hr (hv.kept ((Below.one w X).mono hB)) (by simp;omega))
 clear hr hv
 go_enter func23,ntmps23
 go_wp2_with fail
 refine (HC.out _).mono ?_
 rintro e w1 ⟨rfl,hb1⟩
 go_wp2_with fail
 go_ret
 exact ⟨rfl,zaY hb1⟩
theorem zhi (x:Ins) (c0 c1 c2 c3 c4:Value) (args regs:Int) (rest:Bool) (oc oa ok op:Option Addr) (lc cc la ca lk ck lp cp:Nat) (B pb ub:Nat) (w:World) (hx:InsR w B x [c0,c1,c2,c3,c4]) (hB:B≤w.heap.size)
  (hp:BoxL w pb 47 [.int .i64 args,.bool rest,.int .i64 regs,.slice oc lc cc,.slice oa la ca]) (hu:BoxL w ub 34 [.slice ok lk ck,.slice op lp cp]) :
  Calls prog 26 #[.agg #[c0,c1,c2,c3,c4],.pointer (some ⟨pb,0,none⟩),.pointer (some ⟨ub,0,none⟩)] w fun e w'=>e=.returned (.bool (!Unt.fits x regs lc lp lk))∧Below w.heap.size w w':=by
 obtain ⟨k,d,a,b,l⟩:=x
 obtain ⟨sl,he,_,_,ha,_,hl⟩:=hx
 simp only[List.cons.injEq,and_true] at he
 obtain ⟨rfl,rfl,rfl,rfl,rfl⟩:=he
 obtain ⟨o,len,cap,rfl⟩:=hl.form
 obtain ⟨r,hr⟩:∃r,Unt.fits ⟨k,d,a,b,l⟩ regs lc lp lk=r:=⟨_,rfl⟩
 rw[hr]
 have HC:=zh (fun X=>ziT k d a b l o len cap args regs rest oc oa ok op lc cc la ca lk ck lp cp B (w.alloc X) ha (hl.kept ((Below.one w X).mono hB) fun _ _ _ h=>h) (by simp;omega) r hr)
 have p0:=hp.cell 0 rfl
 have p1:=hp.cell 1 rfl
 have p2:=hp.cell 2 rfl
 have p3:=hp.cell 3 rfl
 have p4:=hp.cell 4 rfl
 have u0:=hu.cell 0 rfl
 have u1:=hu.cell 1 rfl
 have z0:=hp.lt
 have z1:=hu.lt
 dsimp only at p0 p1 p2 p3 p4 u0 u1 ha
 clear hr hl hp hu
 go_enter func26,ntmps26
 go_wp2_with fail
 refine (HC.out _).mono ?_
 rintro e w1 ⟨rfl,hb1⟩
 go_wp2_with fail
 go_ret
 exact ⟨rfl,zaY hb1⟩
theorem zcY {nk np:Int} {l:List Proc} {j:Nat} {p:Proc} {all:Int} (h:l[j]?=some p):Unt.procsB nk np (l.drop j) all=(Unt.headB p&&(decide (all+p.code.length≤50000)&&(Unt.lastB (Unt.lastOp p.code)&&(p.code.all (fun x=>Unt.fits x p.regs p.code.length np nk)&&Unt.procsB nk np (l.drop (j+1)) (all+p.code.length))))):=by
 obtain ⟨hj,he⟩:=List.getElem?_eq_some_iff.1 h
 rw[List.drop_eq_getElem_cons hj,he,Unt.procsB]
theorem zkE {u:Unt} (h:u.okB=false):u.err=5:=by simp[Unt.err,h]
theorem zkD {u:Unt} (h:u.okB=true):u.err=0:=by simp[Unt.err,h]
theorem zed {l:List Ins} {x:Ins} {n:Nat} (hn:n=l.length) (hx:l[n-1]?=some x):Unt.lastOp l=x.op:=by
 subst hn
 rw[Unt.lastOp,List.getLast?_eq_getElem?,hx]
theorem zdh (u:Unt) (v:Value) (B:Nat) (w:World) (hv:UntR w B u v) (hB:B≤w.heap.size) :
  Calls prog 9 #[v] w fun e w'=>e=.returned (.int .i64 u.err)∧Below w.heap.size w w':=by
 obtain ⟨cv,pv,rfl,hc,hp⟩:=hv
 obtain ⟨E,hE⟩:∃E,u.err=E:=⟨_,rfl⟩
 rw[hE]
 obtain ⟨op,np,cp,rfl,hnp,hcapp,hmaxp⟩:=hp.slice
 have HCS:=zh hc
 obtain ⟨ok,nk,ck,rfl,hnk,hcapk,hmaxk,_⟩:=hc
 have HP:=zh hp
 have HE:=zh hE
 have HNP:=zh hnp
 have HNK:=zh hnk
 clear hp hE hnp hnk
 have HNO:=zh (show (∀h:u.okB=false,E=5) from fun h=>by rw[←HE.out,zkE h])
 by_cases c1:np<1
 ·obtain rfl:E=5:=HNO.out (by rw[Unt.okB,←HNP.out];simp;omega)
  obtain rfl:np=0:=by omega
  go_enter func9,ntmps9
  go_wp2_with fail
  go_ret
  exact ⟨rfl,Below.one _ _⟩
 by_cases c2:1000<np
 ·obtain rfl:E=5:=HNO.out (by rw[Unt.okB,←HNP.out];simp;omega)
  go_enter func9,ntmps9
  go_wp2_with fail
  go_ret
  exact ⟨rfl,Below.one _ _⟩
 obtain ⟨rc,hrc⟩:∃rc,u.consts.any (fun x=>!Dat.right x 0)=rc:=⟨_,rfl⟩
 have HRC:=zh hrc
 have HC:=zh (fun X=>zbi 23 #[] (fun x=>!Dat.right x 0) rc u.consts (.slice ok nk ck) B (w.alloc X) (HCS.out.kept ((Below.one w X).mono hB)) (by simp;omega) (fun _ _=>rfl) (fun x _ v W hr hbW=>by
  exact ziC x v B W hr (by have:=hbW.size;simp at this;omega)) HRC.out)
 clear hrc
 have c1':¬(np:Int)<1:=by omega
 have HB0:=zh (Below.refl (w.heap.size+1) (w.alloc (.cells #[.slice ok nk ck,.slice op np cp] 34)))
 go_enter func9,ntmps9
 go_wp2_with fail
 refine (HC.out _).mono ?_
 rintro e w1 ⟨rfl,hb1⟩
 have HB1:=zh (HB0.out.trans (hb1.mono (by simp)))
 clear hb1 HC
 cases rc with
 | true=>
  obtain rfl:E=5:=HNO.out (by
   have h1:=HRC.out
   rw[←List.not_all_eq_any_not] at h1
   have h2:u.consts.all (fun x=>Dat.right x 0)=false:=by simpa using h1
   rw[Unt.okB,h2];simp)
  go_wp2_with fail
  go_ret
  exact ⟨rfl,(Below.one w _).trans (HB1.out.mono (by omega))⟩
 | false=>
  have HOK:=zh (show u.okB=Unt.procsB nk np u.procs 0 from by
   have h1:=HRC.out
   rw[←List.not_all_eq_any_not] at h1
   have h2:u.consts.all (fun x=>Dat.right x 0)=true:=by simpa using h1
   rw[Unt.okB,h2,←HNP.out,←HNK.out,decide_eq_true (show 1≤(np:Int) by omega),decide_eq_true (show (np:Int)≤1000 by omega)];simp)
  have bu1:BoxL w1 w.heap.size 34 [.slice ok nk ck,.slice op np cp]:=(HB1.out.block _ (by omega)).trans (BoxL.new rfl _ _)
  have q1:=bu1.cell 1 rfl
  have hlt1:=bu1.lt
  clear bu1
  go_wp2_with fail
  go_loopg [3,26] np (fun g a i wr=>∃(j:Nat) (all:Int),g=np-j∧j≤np∧a=.int .i64 all∧i=.int .i64 j∧0≤all∧all≤50000∧Hid (Unt.procsB nk np u.procs 0=Unt.procsB nk np (u.procs.drop j) all)∧Hid (Below (w.heap.size+1) (w.alloc (.cells #[.slice ok nk ck,.slice op np cp] 34)) wr))
  case atStart=>exact ⟨0,0,rfl,by omega,rfl,rfl,by omega,by omega,rfl,HB1⟩
  case round=>
   obtain ⟨j,all,rfl,hj,rfl,rfl,ha0,ha1,HS,HB⟩:=hrel
   have bu:BoxL wr w.heap.size 34 [.slice ok nk ck,.slice op np cp]:=(HB.out.block _ (by omega)).trans (BoxL.new rfl _ _)
   have hlt:=bu.lt
   have HBU:=zh bu
   have HBW:=zh (show Below w.heap.size w wr from (Below.one w _).trans (HB.out.mono (by omega)))
   clear bu q1
   by_cases hjl:j<np
   ·obtain ⟨p,hx⟩:∃p,u.procs[j]?=some p:=⟨_,List.getElem?_eq_getElem (by rw[←HNP.out];exact hjl)⟩
    obtain ⟨b1,off1,cs,ho1,hbB,hcl,hcell,hpr⟩:=HP.out.at (HBW.out.mono hB) hx
    subst ho1
    have HSTEP:=zh (HS.out.trans (zcY hx))
    obtain ⟨args,rest,regs,code,alive⟩:=p
    obtain ⟨sl,al,rfl,hbargs,hbregs,hcode,halive⟩:=hpr
    obtain ⟨oc,n,cc,rfl,hn,hcapc,hmaxc⟩:=hcode.slice
    obtain ⟨oa,la,ca,rfl⟩:=halive.form
    dsimp only at hn hbargs hbregs HSTEP hcode
    have e0:=hcell 0 _ rfl
    have e1:=hcell 1 _ rfl
    have e2:=hcell 2 _ rfl
    have e3:=hcell 3 _ rfl
    have e4:=hcell 4 _ rfl
    rw[Nat.add_zero] at e0
    have HN:=zh hn
    have HCODE:=zh hcode
    have HBN:=zh (fun X=>(Below.one wr X))
    clear hx hcell hcl hcode halive hn
    have HEND:=zh (show (∀h:Unt.procsB nk np (u.procs.drop j) all=false,E=5) from fun h=>HNO.out (by rw[HOK.out,HS.out];exact h))
    have HEND2:=zh (show (∀h:Unt.headB ⟨args,rest,regs,code,alive⟩=false,E=5) from fun h=>HNO.out (by rw[HOK.out,HSTEP.out,h];rfl))
    have HLN:=zh (show (code.length:Int)=n from by rw[HN.out])
    by_cases h1:args<0
    ·obtain rfl:E=5:=HEND2.out (by simp[Unt.headB,h1])
     go_wp2_with fail
     go_ret
     exact ⟨rfl,HBW.out.alloc (by have:=HBW.out.size;omega) _⟩
    by_cases h2:regs<args
    ·obtain rfl:E=5:=HEND2.out (by simp[Unt.headB,h2])
     go_wp2_with fail
     go_ret
     exact ⟨rfl,HBW.out.alloc (by have:=HBW.out.size;omega) _⟩
    by_cases h3:20000<regs
    ·obtain rfl:E=5:=HEND2.out (by simp[Unt.headB,h3])
     go_wp2_with fail
     go_ret
     exact ⟨rfl,HBW.out.alloc (by have:=HBW.out.size;omega) _⟩
    by_cases h4:rest=true∧args=0
    ·obtain ⟨rfl,rfl⟩:=h4
     obtain rfl:E=5:=HEND2.out (by simp[Unt.headB])
     go_wp2_with fail
     go_ret
     exact ⟨rfl,HBW.out.alloc (by have:=HBW.out.size;omega) _⟩
    by_cases h5:n=0
    ·subst h5
     obtain rfl:E=5:=HEND2.out (by have:=HLN.out;simp[Unt.headB,this])
     cases rest with
     | true=>
      have h4':(args==0)=false:=by simpa using fun h=>h4 ⟨rfl,h⟩
      go_wp2_with fail
      go_ret
      exact ⟨rfl,HBW.out.alloc (by have:=HBW.out.size;omega) _⟩
     | false=>
      go_wp2_with fail
      go_ret
      exact ⟨rfl,HBW.out.alloc (by have:=HBW.out.size;omega) _⟩
    by_cases h6:50000<n
    ·obtain rfl:E=5:=HEND2.out (by have:=HLN.out;simp[Unt.headB,this];omega)
     cases rest with
     | true=>
      have h4':(args==0)=false:=by simpa using fun h=>h4 ⟨rfl,h⟩
      go_wp2_with fail
      go_ret
      exact ⟨rfl,HBW.out.alloc (by have:=HBW.out.size;omega) _⟩
     | false=>
      go_wp2_with fail
      go_ret
      exact ⟨rfl,HBW.out.alloc (by have:=HBW.out.size;omega) _⟩
    have HH:=zh (show Unt.headB ⟨args,rest,regs,code,alive⟩=true from by
     have h7:=HLN.out
     have h8:¬(code.length:Int)=0:=by omega
     have h9:¬(50000:Int)<code.length:=by omega
     have hra:(rest&&decide (args=0))=false:=by cases rest<;>simp;intro h;exact h4 ⟨rfl,h⟩
     simp only[Unt.headB,decide_eq_false h1,decide_eq_false h2,decide_eq_false h3,decide_eq_false h8,decide_eq_false h9,hra];rfl)
    have d1:decide (args<0)=false:=decide_eq_false h1
    have d2:decide (regs<args)=false:=decide_eq_false h2
    have d3:decide (20000<regs)=false:=decide_eq_false h3
    have d5:((n:Int)==0)=false:=by simpa using h5
    have d6:decide ((50000:Int)<(n:Int))=false:=decide_eq_false (by omega)
    obtain ⟨x,hx⟩:∃x,code[n-1]?=some x:=⟨_,List.getElem?_eq_getElem (by rw[←HN.out];omega)⟩
    obtain ⟨bc,offc,ds,hoc,hbc,hdl,hdcell,hins⟩:=HCODE.out.at (HBW.out.mono hB) hx
    subst hoc
    obtain ⟨kk,dd,aa,bb,ll⟩:=x
    obtain ⟨sl,rfl,hbk,_,_,_,_⟩:=hins
    have k0:=hdcell 0 _ rfl
    rw[Nat.add_zero] at k0
    dsimp only at k0 hbk
    have HLO:=zh (show Unt.lastOp code=kk from zed HN.out hx)
    have hkl:=zac k0
    have hnpos:0<n:=by omega
    clear hx hdcell hdl
    have HEND3:=zh (show (∀h:(decide (all+n≤50000)&&(Unt.lastB kk))=false,E=5) from fun h=>HNO.out (by
     rw[HOK.out,HSTEP.out,HLN.out,HLO.out,HH.out]
     rcases Bool.and_eq_false_iff.1 h with h | h<;>rw[h]<;>simp))
    by_cases h7:50000<all+n
    ·obtain rfl:E=5:=HEND3.out (by rw[decide_eq_false (by omega)];rfl)
     have d7:decide ((50000:Int)<all+n)=true:=decide_eq_true h7
     cases rest with
     | true=>
      have h4':(args==0)=false:=by simpa using fun h=>h4 ⟨rfl,h⟩
      go_wp2_with fail
      all_goals go_ret
      all_goals exact ⟨rfl,HBW.out.alloc (by have:=HBW.out.size;omega) _⟩
     | false=>
      go_wp2_with fail
      all_goals go_ret
      all_goals exact ⟨rfl,HBW.out.alloc (by have:=HBW.out.size;omega) _⟩
    have h7':all+n≤50000:=by omega
    have d7:decide ((50000:Int)<all+n)=false:=decide_eq_false h7
    by_cases h8:kk≠15∧(kk<19∨22<kk)
    ·obtain rfl:E=5:=HEND3.out (by rw[decide_eq_true h7'];simp[Unt.lastB];omega)
     obtain ⟨h8a,h8b⟩:=h8
     have h8c:(kk != 15)=true:=by simpa using h8a
     by_cases h8d:kk<19
     ·have h8e:decide (kk<19)=true:=decide_eq_true h8d
      cases rest with
      | true=>
       have h4':(args==0)=false:=by simpa using fun h=>h4 ⟨rfl,h⟩
       go_wp2_with fail
       all_goals go_ret
       all_goals exact ⟨rfl,HBW.out.alloc (by have:=HBW.out.size;omega) _⟩
      | false=>
       go_wp2_with fail
       all_goals go_ret
       all_goals exact ⟨rfl,HBW.out.alloc (by have:=HBW.out.size;omega) _⟩
     ·have h8e:decide (kk<19)=false:=decide_eq_false h8d
      have h8f:decide (22<kk)=true:=decide_eq_true (by omega)
      cases rest with
      | true=>
       have h4':(args==0)=false:=by simpa using fun h=>h4 ⟨rfl,h⟩
       go_wp2_with fail
       all_goals go_ret
       all_goals exact ⟨rfl,HBW.out.alloc (by have:=HBW.out.size;omega) _⟩
      | false=>
       go_wp2_with fail
       all_goals go_ret
       all_goals exact ⟨rfl,HBW.out.alloc (by have:=HBW.out.size;omega) _⟩
    have HLB:=zh (show Unt.lastB kk=true from by simp[Unt.lastB];omega)
    have HW8:=zh h8
    clear h8
    obtain ⟨rf,hrf⟩:∃rf,code.any (fun x=>!Unt.fits x regs n np nk)=rf:=⟨_,rfl⟩
    have HRF:=zh hrf
    clear hrf
    have HNEXT:=zh (show (rf=true→E=5)∧(rf=false→Unt.procsB nk np u.procs 0=Unt.procsB nk np (u.procs.drop (j+1)) (all+n)) from by
     have h1:=HRF.out
     rw[←List.not_all_eq_any_not] at h1
     have h2:=HSTEP.out
     rw[HLN.out,HLO.out,HH.out,HLB.out,decide_eq_true h7'] at h2
     constructor
     ·rintro rfl
      refine HNO.out (by rw[HOK.out,h2];simp only[Bool.not_eq_true'] at h1;rw[h1];rfl)
     ·rintro rfl
      have h3:(code.all fun x=>Unt.fits x regs n np nk)=true:=by simpa using h1
      rw[h2,h3];rfl)
    have hW1:∀X,Below B w (wr.alloc X):=fun X=>(HBW.out.mono hB).trans ((Below.one wr X).mono (by have:=HBW.out.size;omega))
    have HCF:=zh (zdF (InsR w B) 26 #[.pointer (some ⟨wr.heap.size,0,none⟩),.pointer (some ⟨w.heap.size,0,none⟩)] (fun x=>!Unt.fits x regs n np nk) rf code (.slice (some ⟨bc,offc,none⟩) n cc) B (wr.alloc (.cells [.int .i64 args,.bool rest,.int .i64 regs,.slice (some ⟨bc,offc,none⟩) n cc,.slice oa la ca].toArray 47)) (HCODE.out.kept (hW1 _) fun _ _ _ h=>h) (by have:=HBW.out.size;simp;omega) (fun _ _=>rfl) (fun x _ c0 c1 c2 c3 c4 W hR hbW=>zhi x c0 c1 c2 c3 c4 args regs rest (some ⟨bc,offc,none⟩) oa ok (some ⟨b1,off1,none⟩) n cc la ca nk ck np cp B wr.heap.size w.heap.size W (hR.kept ((hW1 _).trans (hbW.mono (by have:=HBW.out.size;simp;omega)))) (by have:=hbW.size;have:=HBW.out.size;simp at *;omega) ((BoxL.new rfl _ _).keep hbW) ((HBU.out.alloc _).keep hbW)) HRF.out)
    clear hW1
    cases rest with
    | true=>
     have h4':(args==0)=false:=by simpa using fun h=>h4 ⟨rfl,h⟩
     have hk:(kk=15)∨(kk≠15∧19≤kk∧kk≤22):=by have:=HW8.out;omega
     rcases hk with hk | ⟨hk,hk1,hk2⟩
     ·have e15:(kk != 15)=false:=by simpa using hk
      clear hk
      go_wp2_with fail
      refine HCF.out.mono ?_
      rintro e w2 ⟨rfl,hb2⟩
      have HB2:=zh (zaY hb2)
      clear hb2
      cases rf with
      | true=>
       obtain rfl:E=5:=HNEXT.out.1 rfl
       go_wp2_with fail
       go_ret
       exact ⟨rfl,Below.next HBW.out HB2.out⟩
      | false=>
       have HPN:=zh (HNEXT.out.2 rfl)
       go_wp2_with fail
       go_roundg (np-(j+1))
       case measure=>omega
       case rel=>exact ⟨j+1,all+n,rfl,by omega,rfl,by go_num,by omega,by omega,HPN,zh (HB.out.trans (HB2.out.mono (by omega)))⟩
     ·have e15:(kk != 15)=true:=by simpa using hk
      have e19:decide (kk<19)=false:=decide_eq_false (by omega)
      have e22:decide (22<kk)=false:=decide_eq_false (by omega)
      go_wp2_with fail
      refine HCF.out.mono ?_
      rintro e w2 ⟨rfl,hb2⟩
      have HB2:=zh (zaY hb2)
      clear hb2
      cases rf with
      | true=>
       obtain rfl:E=5:=HNEXT.out.1 rfl
       go_wp2_with fail
       go_ret
       exact ⟨rfl,Below.next HBW.out HB2.out⟩
      | false=>
       have HPN:=zh (HNEXT.out.2 rfl)
       go_wp2_with fail
       go_roundg (np-(j+1))
       case measure=>omega
       case rel=>exact ⟨j+1,all+n,rfl,by omega,rfl,by go_num,by omega,by omega,HPN,zh (HB.out.trans (HB2.out.mono (by omega)))⟩
    | false=>
     have hk:(kk=15)∨(kk≠15∧19≤kk∧kk≤22):=by have:=HW8.out;omega
     rcases hk with hk | ⟨hk,hk1,hk2⟩
     ·have e15:(kk != 15)=false:=by simpa using hk
      clear hk
      go_wp2_with fail
      refine HCF.out.mono ?_
      rintro e w2 ⟨rfl,hb2⟩
      have HB2:=zh (zaY hb2)
      clear hb2
      cases rf with
      | true=>
       obtain rfl:E=5:=HNEXT.out.1 rfl
       go_wp2_with fail
       go_ret
       exact ⟨rfl,Below.next HBW.out HB2.out⟩
      | false=>
       have HPN:=zh (HNEXT.out.2 rfl)
       go_wp2_with fail
       go_roundg (np-(j+1))
       case measure=>omega
       case rel=>exact ⟨j+1,all+n,rfl,by omega,rfl,by go_num,by omega,by omega,HPN,zh (HB.out.trans (HB2.out.mono (by omega)))⟩
     ·have e15:(kk != 15)=true:=by simpa using hk
      have e19:decide (kk<19)=false:=decide_eq_false (by omega)
      have e22:decide (22<kk)=false:=decide_eq_false (by omega)
      go_wp2_with fail
      refine HCF.out.mono ?_
      rintro e w2 ⟨rfl,hb2⟩
      have HB2:=zh (zaY hb2)
      clear hb2
      cases rf with
      | true=>
       obtain rfl:E=5:=HNEXT.out.1 rfl
       go_wp2_with fail
       go_ret
       exact ⟨rfl,Below.next HBW.out HB2.out⟩
      | false=>
       have HPN:=zh (HNEXT.out.2 rfl)
       go_wp2_with fail
       go_roundg (np-(j+1))
       case measure=>omega
       case rel=>exact ⟨j+1,all+n,rfl,by omega,rfl,by go_num,by omega,by omega,HPN,zh (HB.out.trans (HB2.out.mono (by omega)))⟩
   ·obtain rfl:j=np:=by omega
    have HT:=zh (show u.okB=true from by rw[HOK.out,HS.out,List.drop_eq_nil_of_le (by rw[←HNP.out];exact Nat.le_refl _)];rfl)
    obtain rfl:E=0:=by rw[←HE.out,zkD HT.out]
    go_wp2_with fail
    go_ret
    exact ⟨rfl,HBW.out⟩
end
section
open Go
def InvPost (I:Array Bool→Act→World→Prop) (listed:Array Bool) (i:Nat) (o:Oper) (a:Act) (e:Exit) (a':Act) (w':World):Prop:=e=.normal∧∃v,a'=a.put o.dst v∧I (listed.setIfInBounds i true) a' w'
theorem zdx {P:Program} {id:Nat} {Q:Exit→Act→World→Prop} {a0:Act} {w:World} {l:List Oper} (n:Nat) (I:Array Bool→Act→World→Prop) (hm:P.follows .mixedOrders=true) (hB:monoB l.toArray n a0.tmps.size=true)
  (h0:I (Array.replicate l.toArray.size false) a0 w.drew)
  (hops:∀i o,i<n→l.toArray[i]?=some o→∀(listed:Array Bool) (a:Act) (w1:World),listed.size=l.toArray.size→a.defers=a0.defers→a.tmps.size=a0.tmps.size→Rest l.toArray n a0 a→I listed a w1→listed.getD i false=false→(∀e∈o.after,Region.binds .any e=true→listed.getD e.on false=true) →
   wpList P l.toArray (InvPost I listed i o a) [o] a w1)
  (hend:∀(listed:Array Bool) (a:Act) (w1:World),(∀i,i<n→listed.getD i false=true)→a.defers=a0.defers→a.tmps.size=a0.tmps.size→Rest l.toArray n a0 a→I listed a w1→wpList P l.toArray Q (l.drop n) a w1) :
  (Code.region id l.toArray true).wp P Q a0 w:=by
 simp only[monoB,monoG,Bool.and_eq_true,decide_eq_true_eq] at hB
 obtain ⟨⟨h1,h2,h3,h4,h5,h6⟩,h7⟩:=hB
 refine wp_region_any hm ?_
 have inv0:HeadInv .any l.toArray n (Array.replicate l.toArray.size false):=
  ⟨by simp,fun j oj _ hl=>(by rw[getD_replicate_false] at hl;cases hl),fun t _ ht=>getD_in (by simpa using ht) (getD_replicate_false _ _)⟩
 have hcount:((List.range n).filter fun i=>!(Array.replicate l.toArray.size false).getD i true).length=n:=by
  rw[List.filter_eq_self.2]
  ·simp
  ·intro i hi
   have:i<l.toArray.size:=by have:=List.mem_range.1 hi;omega
   have h':i<l.length:=by simpa using this
   simp[h']
 have:=zgN (P:=P) (Q:=Q) (g:=l.toArray.size-n) (I:=fun listed a w=>listed.size=l.toArray.size∧a.defers=a0.defers∧a.tmps.size=a0.tmps.size∧Rest l.toArray n a0 a∧I listed a w) h1 h2 h3 h4 ?_ ?_ n _ a0 w.drew hcount inv0
  ⟨by simp,rfl,rfl,fun _ _=>rfl,h0⟩
 ·rwa[show n+(l.toArray.size-n)=l.toArray.size by omega] at this
 ·rintro listed a w1 i ⟨hls,hdf,hsz,hrest,hI⟩ hi hr
  obtain ⟨hun,o,ho,hdeps⟩:=mem_ready.1 hr
  unfold wpOp
  simp only[ho]
  have hg:Region.wanted o (yielded l.toArray a.tmps)=true:=zhW (R:=fun _ _ _=>True) (w:=w1) h7 (fun _ h=>by cases h) hi ho (by rw[hsz];exact Nat.le_refl _) (fun _ _ _ _ _ _ _=>trivial)
  rw[if_pos hg]
  left
  refine Oper.wp_mono ?_ (zbn (ops:=l.toArray) hg (hops i o hi ho listed a w1 hls hdf hsz hrest hI (by
   have hlt:i<listed.size:=by rw[hls];omega
   simpa[hlt] using hun) hdeps))
  rintro a' w' ⟨v,rfl,hI'⟩
  refine ⟨by simpa using hls,?_,?_,?_,hI'⟩
  ·cases o.dst<;>exact hdf
  ·cases hdst:o.dst with
   | none=>exact hsz
   | some d=>simpa[Act.put] using hsz
  ·intro t ht
   cases hdst:o.dst with
   | none=>exact hrest t ht
   | some d'=>
    have hd':d' < a.tmps.size:=by
     have g1:=List.all_eq_true.1 (List.all_eq_true.1 h5 i (List.mem_range.2 hi)) i (List.mem_range.2 hi)
     simp only[ho,hdst,Bool.and_eq_true,decide_eq_true_eq] at g1
     rw[hsz];exact g1.1
    rw[zbE hd',if_neg ?_]
    ·exact hrest t ht
    ·rintro rfl;exact ht i o hi ho hdst
 ·rintro listed a w1 ⟨hls,hdf,hsz,hrest,hI⟩ inv hall
  have hdl:(l.drop n).length=l.toArray.size-n:=by simp
  have g:=wpAny_of_seq (md:=.any) (Q':=Q) (l.drop n) n listed a w1 (fun j=>by simp[List.getElem?_drop]) (by rw[hdl,zeL h4 inv hall];exact h6)
   (hend listed a w1 (fun i hi=>by
    have:=hall i hi
    have hlt:i<listed.size:=by rw[hls];omega
    simpa[hlt] using this) hdf hsz hrest hI)
  rwa[hdl] at g
end
section
open Go.RowKit
end
section
open Go.RowKit
end
section
open Go.RowKit
section
variable {P : Program} {ops : Array Oper} {Q : Exit → Act → World → Prop} {o : Oper} {a : Act} {w w' : World}
theorem zai {v:Value} (hg:o.guard=none) (h:(execOp a.eval o).run P w=.ok (.value v) w') (hQ:Q .normal (a.put o.dst v) w'):wpList P ops Q [o] a w:=
 wpList_plain hg fun K hK=>by unfold Oper.wp;rw[h];exact hK _ _ hQ
end
end
section
open Go.RowKit
namespace Live
open Unt Peep
end Live
end
section
namespace Trm
theorem addV_nil (S:Int→Bool):addV S []=S:=by funext x;simp[addV]
theorem addV_append (S:Int→Bool) (a b:List Int):addV S (a++b)=addV (addV S a) b:=by funext x;simp[addV,Bool.or_assoc]
theorem newB_append (a b:List Int):∀S:Int→Bool,newB S (a++b)=(newB S a&&newB (addV S a) b):=by
 induction a with
 | nil=>intro S;simp[newB,addV_nil]
 | cons x a ih=>intro S;simp[newB,ih,Bool.and_assoc,←addV_append]
theorem newB_iff:∀(l:List Int) (S:Int→Bool),newB S l=true↔(∀x∈l,0≤x∧x≤1000000∧S x=false)∧l.Nodup:=by
 intro l
 induction l with
 | nil=>intro S;simp[newB]
 | cons x l ih=>
  intro S
  rw[newB,Bool.and_eq_true,ih]
  simp only[Bool.and_eq_true,decide_eq_true_eq,Bool.not_eq_true',List.mem_cons,forall_eq_or_imp,List.nodup_cons,addV,Bool.or_eq_false_iff,List.contains_eq_mem,List.not_mem_nil,or_false,decide_eq_false_iff_not]
  constructor
  ·rintro ⟨⟨h1,h2,h3⟩,h4,h5⟩
   exact ⟨⟨⟨h1,h2,h3⟩,fun y hy=>⟨(h4 y hy).1,(h4 y hy).2.1,(h4 y hy).2.2.1⟩⟩,fun hx=>(h4 x hx).2.2.2 rfl,h5⟩
  ·rintro ⟨⟨⟨h1,h2,h3⟩,h4⟩,h5,h6⟩
   exact ⟨⟨h1,h2,h3⟩,fun y hy=>⟨(h4 y hy).1,(h4 y hy).2.1,(h4 y hy).2.2,fun e=>h5 (e ▸ hy)⟩,h6⟩
theorem newB_perm {a b:List Int} (h:a.Perm b) (S:Int→Bool):newB S a=newB S b:=by
 rw[Bool.eq_iff_iff,newB_iff,newB_iff]
 exact ⟨fun ⟨h1,h2⟩=>⟨fun x hx=>h1 x (h.mem_iff.2 hx),h.nodup_iff.1 h2⟩,fun ⟨h1,h2⟩=>⟨fun x hx=>h1 x (h.mem_iff.1 hx),h.nodup_iff.2 h2⟩⟩
theorem addV_perm {a b:List Int} (h:a.Perm b) (S:Int→Bool):addV S a=addV S b:=by
 funext x
 rw[Bool.eq_iff_iff]
 simp[addV,h.mem_iff]
theorem zcR:∀(N:Nat) (l:List Int),l.Nodup→(∀x∈l,0≤x∧x<N)→l.length≤N
 | 0,l,_,h=>by
  cases l with
  | nil=>simp
  | cons x l=>have:=h x (by simp);omega
 | N+1,l,hd,h=>by
  have h1:=zcR N (l.erase (N:Int)) (hd.erase _) (fun x hx=>by
   have:=(hd.mem_erase_iff).1 hx
   have:=h x this.2
   omega)
  have:=List.le_length_erase (a:=(N:Int)) (l:=l)
  omega
theorem newB_short {S:Int→Bool} {l:List Int} (h:newB S l=true):l.length≤1000001:=by
 obtain ⟨h1,h2⟩:=(newB_iff l S).1 h
 exact zcR 1000001 l h2 fun x hx=>by have:=h1 x hx;omega
theorem all_pos:∀x:Trm,1≤x.all
 | mk _ _ _ t=>by rw[all];omega
theorem allL_length:∀l:List Trm,l.length≤allL l
 | []=>Nat.le_refl _
 | x::l=>by have:=allL_length l;have:=all_pos x;rw[allL,List.length_cons];omega
end Trm
namespace Mk
theorem lkL_snoc (l:List (Int × Int)) (v r x:Int):lkL (l++[(v,r)]) x=if x=v then r else lkL l x:=by
 induction l with
 | nil=>simp[lkL,eq_comm]
 | cons p l ih=>
  rw[List.cons_append,lkL,ih,lkL]
  by_cases h:x=v
  ·subst h;simp
  ·have hv:(v==x)=false:=by simpa using Ne.symm h
   have e:(l++[(v,r)]).any (fun q=>q.1==x)=l.any (fun q=>q.1==x):=by rw[List.any_append];simp[hv]
   rw[e];simp[h]
def LkOk (lk:List (Int × Int)→Int→Int):Prop:=∀l v,lk l v=0∨∃p∈l,lk l v=p.2
theorem lkF_ok:LkOk lkF:=by
 intro l v
 induction l with
 | nil=>exact .inl rfl
 | cons p l ih=>
  rw[lkF]
  split
  ·exact .inr ⟨p,by simp,rfl⟩
  ·rcases ih with h | ⟨q,hq,h⟩
   ·exact .inl h
   ·exact .inr ⟨q,by simp[hq],h⟩
theorem lkL_ok:LkOk lkL:=by
 intro l v
 induction l with
 | nil=>exact .inl rfl
 | cons p l ih=>
  rw[lkL]
  split
  ·rcases ih with h | ⟨q,hq,h⟩
   ·exact .inl h
   ·exact .inr ⟨q,by simp[hq],h⟩
  ·split
   ·exact .inr ⟨p,by simp,rfl⟩
   ·exact .inl rfl
def Room (s:MSt) (k:Nat):Prop:=s.code.length+k≤900000∧0≤s.regs∧s.regs+k≤1900000∧(∀p∈s.vars,0≤p.2∧p.2≤1900000)∧s.vars.length+k≤1900000
theorem Room.mono {s:MSt} {k k':Nat} (h:Room s k) (hk:k'≤k):Room s k':=⟨by have:=h.1;omega,h.2.1,by have:=h.2.2.1;omega,h.2.2.2.1,by have:=h.2.2.2.2;omega⟩
theorem Room.put {s:MSt} {k:Nat} (h:Room s (k+1)) (x:Ins):Room (s.put x) k:=⟨by have:=h.1;simp[MSt.put];omega,h.2.1,by have:=h.2.2.1;simp only[MSt.put];omega,h.2.2.2.1,by have:=h.2.2.2.2;simp only[MSt.put];omega⟩
theorem Room.fresh {s:MSt} {k:Nat} (h:Room s (k+1)):Room s.fresh k:=⟨by have:=h.1;simp only[MSt.fresh];omega,by have:=h.2.1;simp only[MSt.fresh];omega,by have:=h.2.2.1;simp only[MSt.fresh];omega,h.2.2.2.1,by have:=h.2.2.2.2;simp only[MSt.fresh];omega⟩
theorem Room.setA {s:MSt} {k:Nat} (h:Room s k) (j:Nat) (a:Int):Room (s.setA j a) k:=⟨by simpa[MSt.setA] using h.1,h.2⟩
theorem Room.setB {s:MSt} {k:Nat} (h:Room s k) (j:Nat) (a:Int):Room (s.setB j a) k:=⟨by simpa[MSt.setB] using h.1,h.2⟩
theorem Room.bind {s:MSt} {k:Nat} (v rs:List Int) (h:Room s (k+rs.length)) (hr:∀x∈rs,0≤x∧x≤1900000):Room (s.bind v rs) k:=⟨by have:=h.1;simp only[MSt.bind];omega,h.2.1,by have:=h.2.2.1;simp only[MSt.bind];omega,fun p hp=>by
 rcases List.mem_append.1 hp with hp | hp
 ·exact h.2.2.2.1 p hp
 ·exact hr _ (List.of_mem_zip hp).2,by have:=h.2.2.2.2;simp only[MSt.bind,List.length_append,List.length_zip];omega⟩
theorem Room.lk {lk:List (Int × Int)→Int→Int} (hl:LkOk lk) {s:MSt} {k:Nat} (h:Room s k) (v:Int):0≤lk s.vars v∧lk s.vars v≤1900000:=by
 rcases hl s.vars v with h' | ⟨p,hp,h'⟩
 ·rw[h'];omega
 ·rw[h'];exact h.2.2.2.1 p hp
theorem Room.ite {c:Prop} [Decidable c] {a b:MSt} {k:Nat} (ha:Room a k) (hb:Room b k):Room (if c then a else b) k:=by split<;>assumption
theorem Room.strict {s:MSt} {k:Nat} (h:Room s (k+2)) (op n d:Int) (l:List Int):Room (strict op n d l s) k:=by
 have h1:∀x,Room (s.put x) k:=fun x=>Room.mono (k:=k+1) (Room.put (k:=k+1) h x) (by omega)
 unfold Mk.strict
 repeat' (refine Room.ite ?_ ?_)
 all_goals first | exact h1 _ | exact Room.put (k:=k) (Room.put (k:=k+1) h _) _ | exact Room.mono (k:=k+2) h (by omega)
theorem Room.ended {s:MSt} {k:Nat} (h:Room s (k+1)) (op n:Int) (l:List Int):Room (ended op n l s) k:=by
 unfold Mk.ended
 repeat' (refine Room.ite ?_ ?_)
 all_goals exact h.put _
theorem Room.fix1:∀(v:List Int) (t:List Trm) {s:MSt} {k:Nat},Room s (k+3*t.length)→Room (fix1 v t s) k
 | [],t,s,k,h=>by
  rw[Mk.fix1]
  ·exact h.mono (by omega)
  ·simp
 | v::vs,[],s,k,h=>by
  rw[Mk.fix1]
  ·exact h.mono (by omega)
  ·simp
 | v::vs,x::l,s,k,h=>by
  rw[Mk.fix1]
  simp only[List.length_cons] at h
  refine Room.fix1 vs l ?_
  have h2:Room s (k+3*l.length+1+1+1):=h.mono (by omega)
  refine (Room.bind [v] [s.regs] h2.fresh fun x hx=>?_).put _
  rw[List.mem_singleton.1 hx]
  have:=h2.2.1
  have:=h2.2.2.1
  omega
theorem Room.thens {f g:Int→Bool→MSt→MSt} {cf cg:Nat} (hf:∀(d:Int) (e:Bool) (s:MSt) (k:Nat),Room s (k+cf)→Room (f d e s) k) (hg:∀(d:Int) (e:Bool) (s:MSt) (k:Nat),Room s (k+cg)→Room (g d e s) k)
  (c d:Int) (e:Bool) {s:MSt} {k:Nat} (h:Room s (k+2+cf+cg)):Room (thens f g c d e s) k:=by
 have h1:=hf d e _ (k+cg+1) (Room.put (h.mono (k':=k+cg+1+cf+1) (by omega)) ⟨16,0,c,0,[]⟩)
 unfold Mk.thens
 dsimp only
 cases e with
 | true=>exact hg _ _ _ _ (Room.setB (h1.mono (by omega)) _ _)
 | false=>exact Room.setA (hg _ _ _ _ (Room.setB (Room.put (h1.mono (by omega)) _) _ _)) _ _
theorem Room.had {lk:List (Int × Int)→Int→Int} (hl:LkOk lk) (x:Trm) (hx:∀(d:Int) (e:Bool) (s:MSt) (k:Nat),Room s (k+(6*x.all-2))→Room (into lk x d e s) k) {s:MSt} {k:Nat} (h:Room s (k+(6*x.all-1))) :
  Room (hadW lk x.op x.n (into lk x) s).2 k∧0≤(hadW lk x.op x.n (into lk x) s).1∧(hadW lk x.op x.n (into lk x) s).1≤1900000:=by
 have:=x.all_pos
 unfold hadW
 split
 ·exact ⟨h.mono (by omega),h.lk hl _⟩
 ·refine ⟨hx _ _ _ _ (Room.fresh (h.mono (by omega))),h.2.1,by have:=h.2.2.1;omega⟩
mutual
theorem Room.into {lk:List (Int × Int)→Int→Int} (hl:LkOk lk):∀(x:Trm) (d:Int) (e:Bool) (s:MSt) (k:Nat),Room s (k+(6*x.all-2))→Room (into lk x d e s) k
 | .mk op n v t,d,e,s,k,h=>by
  rw[Trm.all] at h
  rw[Mk.into]
  split
  ·exact Room.choice hl t d e s k (h.mono (by omega))
  split
  ·exact Room.seqs hl t d e s k (h.mono (by omega))
  split
  ·exact Room.lets hl t v [] d e s k (h.mono (by simp only[List.length_nil];omega)) (by simp)
  split
  ·have hk:=Trm.allL_length t
   exact Room.fixs hl t v d e _ k (Room.fix1 v t (h.mono (by omega)))
  split
  ·split
   ·exact Room.ended (Room.allT hl t s (k+1) (h.mono (by omega))).1 _ _ _
   ·split
    ·exact Room.put (h.mono (by omega)) _
    ·exact Room.put (Room.strict (Room.allT hl t s.fresh (k+3) (Room.fresh (h.mono (by omega)))).1 _ _ _ _) _
  ·split
   ·exact Room.put (h.mono (by omega)) _
   ·exact Room.strict (Room.allT hl t s (k+2) (h.mono (by omega))).1 _ _ _ _
theorem Room.choice {lk:List (Int × Int)→Int→Int} (hl:LkOk lk):∀(l:List Trm) (d:Int) (e:Bool) (s:MSt) (k:Nat),Room s (k+2+6*Trm.allL l)→Room (choice lk l d e s) k
 | [a,b,x],d,e,s,k,h=>by
  simp only[Trm.allL] at h
  rw[Mk.choice]
  have:=a.all_pos
  have:=b.all_pos
  have:=x.all_pos
  exact Room.thens (cf:=6*b.all-2) (cg:=6*x.all-2) (fun d e s k h=>Room.into hl b d e s k h) (fun d e s k h=>Room.into hl x d e s k h) _ _ _ (Room.had hl a (Room.into hl a) (h.mono (by omega))).1
 | [],_,_,_,_,h=>by rw[Mk.choice];exact h.mono (by omega);all_goals simp
 | [_],_,_,_,_,h=>by rw[Mk.choice];exact h.mono (by omega);all_goals simp
 | [_,_],_,_,_,_,h=>by rw[Mk.choice];exact h.mono (by omega);all_goals simp
 | _::_::_::_::_,_,_,_,_,h=>by rw[Mk.choice];exact h.mono (by omega);all_goals simp
theorem Room.allT {lk:List (Int × Int)→Int→Int} (hl:LkOk lk):∀(l:List Trm) (s:MSt) (k:Nat),Room s (k+6*Trm.allL l)→Room (allT lk l s).2 k∧∀x∈(allT lk l s).1,0≤x∧x≤1900000
 | [],s,k,h=>by rw[Mk.allT];exact ⟨h,by simp⟩
 | x::l,s,k,h=>by
  simp only[Trm.allL] at h
  rw[Mk.allT]
  have h1:=Room.had hl x (Room.into hl x) (h.mono (k':=k+6*Trm.allL l+(6*x.all-1)) (by omega))
  have h2:=Room.allT hl l _ k h1.1
  refine ⟨h2.1,fun y hy=>?_⟩
  rcases List.mem_cons.1 hy with rfl | hy
  ·exact h1.2
  ·exact h2.2 y hy
theorem Room.seqs {lk:List (Int × Int)→Int→Int} (hl:LkOk lk):∀(l:List Trm) (d:Int) (e:Bool) (s:MSt) (k:Nat),Room s (k+6*Trm.allL l)→Room (seqs lk l d e s) k
 | [],_,_,_,_,h=>by rw[Mk.seqs];exact h
 | [x],d,e,s,k,h=>by
  simp only[Trm.allL] at h
  rw[Mk.seqs]
  exact Room.into hl x d e s k (h.mono (by omega))
 | x::y::l,d,e,s,k,h=>by
  rw[Trm.allL] at h
  rw[Mk.seqs]
  exact Room.seqs hl (y::l) d e _ k (Room.had hl x (Room.into hl x) (h.mono (by omega))).1
theorem Room.lets {lk:List (Int × Int)→Int→Int} (hl:LkOk lk):∀(l:List Trm) (v rs:List Int) (d:Int) (e:Bool) (s:MSt) (k:Nat),Room s (k+6*Trm.allL l+rs.length)→(∀x∈rs,0≤x∧x≤1900000)→Room (lets lk l v rs d e s) k
 | [],_,_,_,_,_,_,h,_=>by rw[Mk.lets];exact h.mono (by omega)
 | [x],v,rs,d,e,s,k,h,hr=>by
  simp only[Trm.allL] at h
  rw[Mk.lets]
  exact Room.into hl x d e _ k (Room.bind v rs (h.mono (by omega)) hr)
 | x::y::l,v,rs,d,e,s,k,h,hr=>by
  rw[Trm.allL] at h
  rw[Mk.lets]
  have:=x.all_pos
  have h1:=Room.had hl x (Room.into hl x) (h.mono (k':=k+6*Trm.allL (y::l)+(rs.length+1)+(6*x.all-1)) (by omega))
  refine Room.lets hl (y::l) v _ d e _ k (h1.1.mono (by simp)) fun z hz=>?_
  rcases List.mem_append.1 hz with hz | hz
  ·exact hr z hz
  ·rw[List.mem_singleton.1 hz];exact h1.2
theorem Room.fixs {lk:List (Int × Int)→Int→Int} (hl:LkOk lk):∀(l:List Trm) (v:List Int) (d:Int) (e:Bool) (s:MSt) (k:Nat),Room s (k+(6*Trm.allL l-5*(l.length-1)))→Room (fixs lk l v d e s) k
 | [],_,_,_,_,_,h=>by rw[Mk.fixs];exact h.mono (by simp)
 | [x],v,d,e,s,k,h=>by
  simp only[Trm.allL,List.length_cons,List.length_nil] at h
  rw[Mk.fixs]
  exact Room.into hl x d e s k (h.mono (by omega))
 | .mk o m w t::y::l,v,d,e,s,k,h=>by
  have hk:=Trm.allL_length (y::l)
  rw[Trm.allL,Trm.all] at h
  simp only[List.length_cons] at h hk
  rw[Mk.fixs]
  have h1:=Room.allT hl t s (k+(6*Trm.allL (y::l)-5*(l.length+1-1))+1) (h.mono (by omega))
  exact Room.fixs hl (y::l) v.tail d e _ k (Room.put h1.1 _)
end
end Mk
end
end Go.Proofs.YtdcajmeeeoofgaaGreatDoor
