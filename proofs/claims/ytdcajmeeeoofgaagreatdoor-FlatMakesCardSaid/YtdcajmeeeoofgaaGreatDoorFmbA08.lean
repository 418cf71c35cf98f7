/- .. -/
import Derived.Deep.LoopGhost
import Derived.Deep.QuietTactic
import Derived.BigQuiet
import Derived.ArgAppend
import Derived.WalkMore
import Derived.Deep.Cut
import Derived.Deep.CutRange
import Derived.Test.YtdcajmeeeoofgaaGreatDoorFmbA07
open Go.Proofs.Tryz
set_option maxRecDepth 100000
set_option maxHeartbeats 16000000
namespace Go.Proofs.YtdcajmeeeoofgaaGreatDoor
section
open Go Go.RowKit
theorem zcJ (f t op n:Int) (ov ot:Option Addr) (lv cv lt ct:Nat) (hop:op≠4) (hlt:lt≤ct) (hct:ct≤9223372036854775807) (hlv:lv≤cv) (hcv:cv≤9223372036854775807) (w:World) :
  Calls prog 58 #[.agg #[.int .i64 f,.int .i64 t,.int .i64 0,.bool false,.bool true],.agg #[.int .i64 op,.int .i64 n,.slice ov lv cv,.slice ot lt ct]] w fun e w'=>e=.returned (.bool (decide (lt=lv+1)))∧Below w.heap.size w w':=by
 have f4:(op != 4)=true:=by simpa using hop
 have hb:Below w.heap.size w ((w.alloc (.cells #[.int .i64 f,.int .i64 t,.int .i64 0,.bool false,.bool true] 109)).alloc (.cells #[.int .i64 op,.int .i64 n,.slice ov lv cv,.slice ot lt ct] 27)):=(Below.one w _).trans ((Below.one _ _).mono (by simp))
 have HB:=zh hb
 clear hb hop
 by_cases hm:lv=9223372036854775807
 ·subst hm
  have e1:decide (lt=9223372036854775807+1)=false:=by simp;omega
  have e3:IntKind.i64.wrap 9223372036854775808 = -9223372036854775808:=by decide
  rw[e1]
  have e2:((lt:Int) == -9223372036854775808)=false:=by simp
  go_enter func58,ntmps58
  go_wp2_with fail
  go_ret
  exact ⟨rfl,HB.out⟩
 ·by_cases he:lt=lv+1
  ·subst he
   have e1:decide (lv+1=lv+1)=true:=by simp
   rw[e1]
   have e2:(((lv+1:Nat):Int)==(lv:Int)+1)=true:=by simp
   go_enter func58,ntmps58
   go_wp2_with fail
   go_ret
   exact ⟨rfl,HB.out⟩
  ·rw[decide_eq_false he]
   have e2:((lt:Int)==(lv:Int)+1)=false:=by simp;omega
   go_enter func58,ntmps58
   go_wp2_with fail
   go_ret
   exact ⟨rfl,HB.out⟩
theorem zat (f t op n:Int) (least:Nat) (any:Bool) (ov ot:Option Addr) (lv cv lt ct:Nat) (w:World) :
  Calls prog 58 #[.agg #[.int .i64 f,.int .i64 t,.int .i64 least,.bool any,.bool false],.agg #[.int .i64 op,.int .i64 n,.slice ov lv cv,.slice ot lt ct]] w fun e w'=>e=.returned (.bool ((decide (lt=least) || (any&&decide (least≤lt)))&&decide (lv=0)))∧Below w.heap.size w w':=by
 have hb:Below w.heap.size w ((w.alloc (.cells #[.int .i64 f,.int .i64 t,.int .i64 least,.bool any,.bool false] 109)).alloc (.cells #[.int .i64 op,.int .i64 n,.slice ov lv cv,.slice ot lt ct] 27)):=(Below.one w _).trans ((Below.one _ _).mono (by simp))
 have HB:=zh hb
 clear hb
 obtain ⟨q0,hq0⟩:∃q0,decide (lv=0)=q0:=⟨_,rfl⟩
 have g0:((lv:Int)==0)=q0:=by rw[←hq0];rw[Bool.eq_iff_iff];simp
 rw[hq0]
 clear hq0
 by_cases he:lt=least
 ·have e1:decide (lt=least)=true:=decide_eq_true he
  have e2:((lt:Int)==(least:Int))=true:=by simp[he]
  rw[e1,Bool.true_or,Bool.true_and]
  clear he
  cases q0<;>(go_enter func58,ntmps58;go_wp2_with fail;go_ret;exact ⟨rfl,HB.out⟩)
 ·have e1:decide (lt=least)=false:=decide_eq_false he
  have e2:((lt:Int)==(least:Int))=false:=by simp;omega
  rw[e1,Bool.false_or]
  clear he
  cases any with
  | false=>
   rw[Bool.false_and,Bool.false_and]
   cases q0<;>(go_enter func58,ntmps58;go_wp2_with fail;go_ret;exact ⟨rfl,HB.out⟩)
  | true=>
   obtain ⟨q1,hq1⟩:∃q1,decide (least≤lt)=q1:=⟨_,rfl⟩
   have g1:decide ((least:Int)≤lt)=q1:=by rw[←hq1];rw[Bool.eq_iff_iff];simp
   rw[hq1,Bool.true_and]
   cases q1<;>cases q0<;>(go_enter func58,ntmps58;go_wp2_with fail;go_ret;exact ⟨rfl,HB.out⟩)
end
section
open Go.RowKit
theorem zbQ (w:World) (X Y Z:Obj):Below w.heap.size w (((w.alloc X).alloc Y).alloc Z):=(((Below.refl _ _).alloc (Nat.le_refl _) _).alloc (by simp) _).alloc (by simp;omega) _
theorem zkK {p:Int→Bool} {l:List Int} {j:Nat} {y:Int} (h:l[j]?=some y) (hy:p y=false):l.all p=false:=by
 rw[List.all_eq_false];exact ⟨y,List.mem_of_getElem? h,by simp[hy]⟩
theorem zjn {p:Int→Bool} {l:List Int} {j:Nat} {y:Int} (h:l[j]?=some y) (ha:(l.take j).all p=true) (hy:p y=true):(l.take (j+1)).all p=true:=by
 rw[List.take_add_one,h];simp[List.all_append,ha,hy]
theorem zl2 (k d a b:Int) (l:List Int) (o:Option Addr) (len cap:Nat) (args regs:Int) (rest:Bool) (oc oa ok op:Option Addr) (lc cc la ca lk ck lp cp:Nat) (B:Nat) (w:World) (hk:-9223372036854775808≤k∧k≤9223372036854775807) (hd:-9223372036854775808≤d∧d≤9223372036854775807) (ha:-9223372036854775808≤a∧a≤9223372036854775807) (hb:-9223372036854775808≤b∧b≤9223372036854775807) (hv:SlC w B 1 IntR l (.slice o len cap)) (hB:B≤w.heap.size) (hmx:l.length≤1000000) (r:Bool) (hr:Unt.ins ⟨k,d,a,b,l⟩ regs lc lp lk=r) :
  Calls prog 41 #[.agg #[.int .i64 k,.int .i64 d,.int .i64 a,.int .i64 b,.slice o len cap],.agg #[.int .i64 args,.bool rest,.int .i64 regs,.slice oc lc cc,.slice oa la ca],.agg #[.slice ok lk ck,.slice op lp cp]] w fun e w'=>e=.returned (.bool r)∧Below w.heap.size w w':=by
 by_cases k0:k<0
 ·obtain rfl:false=r:=by rw[←hr];simp[Unt.ins,Unt.isOp];omega
  have f0:decide (k<0)=true:=decide_eq_true k0
  clear hr hv
  go_enter func41,ntmps41
  go_wp2_with fail
  go_ret
  exact ⟨rfl,zbQ _ _ _ _⟩
 by_cases k22:22<k
 ·obtain rfl:false=r:=by rw[←hr];simp[Unt.ins,Unt.isOp];omega
  have f0:decide (k<0)=false:=decide_eq_false k0
  have f1:decide (22<k)=true:=decide_eq_true k22
  clear hr hv
  go_enter func41,ntmps41
  go_wp2_with fail
  go_ret
  exact ⟨rfl,zbQ _ _ _ _⟩
 have f0:decide (k<0)=false:=decide_eq_false k0
 have f1:decide (22<k)=false:=decide_eq_false k22
 obtain ⟨g,hg⟩:∃g,Unt.gives ⟨k,d,a,b,l⟩=g:=⟨_,rfl⟩
 obtain ⟨q,hq⟩:∃q,Unt.bare ⟨k,d,a,b,l⟩=q:=⟨_,rfl⟩
 obtain ⟨nl,hnl⟩:∃nl,Unt.named ⟨k,d,a,b,l⟩=nl:=⟨_,rfl⟩
 obtain ⟨rT,hT⟩:∃rT,Unt.tailOk ⟨k,d,a,b,l⟩ lc lp lk=rT:=⟨_,rfl⟩
 have HR:=zh (show (q&&(nl.all (Unt.below · regs)&&(!(decide (regs≤g) || (decide (g < -1) || decide (d<0)))&&rT)))=r from by
  rw[←hr,Unt.ins,hg,hq,hnl,hT,show Unt.isOp k=true from by simp[Unt.isOp];omega];rfl)
 have HT:=zh hT
 have HG:=zh hg
 have HNL:=zh hnl
 have HV:=zh hv
 have HBA:=zh (fun X Y Z=>zli k d a b l o len cap B (((w.alloc X).alloc Y).alloc Z) hk hd ha hb (hv.kept ((zbQ w X Y Z).mono hB) fun _ _ _ h=>h) (by simp;omega) hmx (by omega) (by omega) q hq)
 have HNM:=zh (fun W (hW:Below w.heap.size w W)=>zea ⟨k,d,a,b,l⟩ _ _ _ _ _ B W ⟨.slice o len cap,rfl,hk,hd,ha,hb,hv.kept (hW.mono hB) fun _ _ _ h=>h⟩ (by have:=hW.size;omega) hmx (by dsimp only;omega) (by dsimp only;omega))
 clear hr hv hg hq hnl hT
 go_enter func41,ntmps41
 go_wp2_with fail
 refine (HBA.out _ _ _).mono ?_
 rintro e w1 ⟨rfl,hb1⟩
 obtain ⟨bx,bp,bu,hb⟩:=zaf hb1
 have HB1:=zh hb
 clear hb1 hb HBA
 cases q with
 | false=>
  obtain rfl:r=false:=by rw[←HR.out];rfl
  go_wp2_with fail
  go_ret
  exact ⟨rfl,HB1.out⟩
 | true=>
  have x0:=bx.cell 0 rfl
  have x1:=bx.cell 1 rfl
  have x2:=bx.cell 2 rfl
  have x3:=bx.cell 3 rfl
  have x4:=bx.cell 4 rfl
  go_wp2_with fail
  refine (HNM.out _ HB1.out).mono ?_
  rintro e w2 ⟨sl,rfl,hs,hb2⟩
  rw[HNL.out] at hs
  rw[HG.out]
  obtain ⟨o2,n2,c2,rfl⟩:=hs.form
  obtain ⟨hn2,hc2,hm2⟩:=hs.lens
  have HN2:=zh hn2
  have HS:=zh hs
  have HB2:=zh (Below.next HB1.out hb2)
  have bx2:=bx.keep hb2
  have bp2:=bp.keep hb2
  have bu2:=bu.keep hb2
  have HX:=zh bx2
  have HP:=zh bp2
  have HU:=zh bu2
  clear hn2 hs hb2 bx bp bu bx2 bp2 bu2 HNM x0 x1 x2 x3 x4
  go_wp2_with fail
  go_loopg [9] n2 (fun g i wr=>∃j:Nat,g=n2-j∧j≤n2∧i=.int .i64 j∧Hid ((nl.take j).all (Unt.below · regs)=true)∧∃nd,wr=w2.drewN nd)
  case atStart=>exact ⟨0,rfl,by omega,rfl,rfl,0,rfl⟩
  case round=>
   obtain ⟨j,rfl,hj,rfl,HA,nd,rfl⟩:=hrel
   by_cases hjl:j<n2
   ·obtain ⟨y,hy⟩:∃y,nl[j]?=some y:=⟨_,List.getElem?_eq_getElem (by rw[←HN2.out];exact hjl)⟩
    obtain ⟨b2,off2,cs,ho2,_,_,hcell,hR⟩:=HS.out.at (Below.refl _ _) hy
    subst ho2
    obtain ⟨rfl,_⟩:=hR
    have e0:=hcell 0 _ rfl
    rw[Nat.mul_one,Nat.add_zero] at e0
    have e1:w2.cell? ⟨b2,off2+j,none⟩=some (.int .i64 y):=e0
    have p2:w2.cell? ⟨w.heap.size+1,2,none⟩=some (.int .i64 regs):=HP.out.cell 2 rfl
    have HY:=zh hy
    clear hy hcell e0
    by_cases y0:y<0
    ·have g0:decide (y<0)=true:=decide_eq_true y0
     obtain rfl:r=false:=by rw[←HR.out,zkK HY.out (by simp[Unt.below];omega)];rfl
     go_wp2_with fail
     go_quiet (fail)
     go_wp2_with fail
     go_ret
     exact ⟨rfl,Below.drewN (Below.drewN HB2.out _) _⟩
    have g0:decide (y<0)=false:=decide_eq_false y0
    by_cases y1:regs≤y
    ·have g1:decide (regs≤y)=true:=decide_eq_true y1
     obtain rfl:r=false:=by rw[←HR.out,zkK HY.out (by simp[Unt.below];omega)];rfl
     go_wp2_with fail
     go_quiet (fail)
     go_wp2_with fail
     go_ret
     exact ⟨rfl,Below.drewN (Below.drewN HB2.out _) _⟩
    have g1:decide (regs≤y)=false:=decide_eq_false y1
    have HA2:=zh (zjn HY.out HA.out (show Unt.below y regs=true from by simp[Unt.below];omega))
    go_wp2_with fail
    go_quiet (fail)
    go_wp2_with fail
    go_roundg (n2-(j+1))
    case measure=>omega
    case rel=>exact ⟨j+1,rfl,by omega,by go_num,HA2,_,rfl⟩
   ·obtain rfl:j=n2:=by omega
    have HAL:=zh (show nl.all (Unt.below · regs)=true from by rw[←HA.out,List.take_of_length_le (by rw[←HN2.out];exact Nat.le_refl _)])
    rw[HAL.out] at HR
    have x0:w2.cell? ⟨w.heap.size,0,none⟩=some (.int .i64 k):=HX.out.cell 0 rfl
    have x1:w2.cell? ⟨w.heap.size,1,none⟩=some (.int .i64 d):=HX.out.cell 1 rfl
    have x2:w2.cell? ⟨w.heap.size,2,none⟩=some (.int .i64 a):=HX.out.cell 2 rfl
    have x3:w2.cell? ⟨w.heap.size,3,none⟩=some (.int .i64 b):=HX.out.cell 3 rfl
    have p2:w2.cell? ⟨w.heap.size+1,2,none⟩=some (.int .i64 regs):=HP.out.cell 2 rfl
    have p3:w2.cell? ⟨w.heap.size+1,3,none⟩=some (.slice oc lc cc):=HP.out.cell 3 rfl
    have u0:w2.cell? ⟨w.heap.size+1+1,0,none⟩=some (.slice ok lk ck):=HU.out.cell 0 rfl
    have u1:w2.cell? ⟨w.heap.size+1+1,1,none⟩=some (.slice op lp cp):=HU.out.cell 1 rfl
    have HBE:=zh (Below.drewN HB2.out nd)
    by_cases c1:regs≤g
    ·have h1:decide (regs≤g)=true:=decide_eq_true c1
     obtain rfl:r=false:=by rw[←HR.out,h1];simp
     go_wp2_with fail
     go_ret
     exact ⟨rfl,HBE.out⟩
    have h1:decide (regs≤g)=false:=decide_eq_false c1
    by_cases c2:g < -1
    ·have h2:decide (g < -1)=true:=decide_eq_true c2
     obtain rfl:r=false:=by rw[←HR.out,h2];simp
     go_wp2_with fail
     go_ret
     exact ⟨rfl,HBE.out⟩
    have h2:decide (g < -1)=false:=decide_eq_false c2
    by_cases c3:d<0
    ·have h3:decide (d<0)=true:=decide_eq_true c3
     obtain rfl:r=false:=by rw[←HR.out,h3];simp
     go_wp2_with fail
     go_ret
     exact ⟨rfl,HBE.out⟩
    have h3:decide (d<0)=false:=decide_eq_false c3
    obtain rfl:rT=r:=by rw[←HR.out,h1,h2,h3];rfl
    by_cases k0':k=0
    ·subst k0'
     by_cases z0:0≤a
     ·have s0:decide (0≤a)=true:=decide_eq_true z0
      by_cases z1:a<(lk:Int)
      ·have s1:decide (a<(lk:Int))=true:=decide_eq_true z1
       obtain rfl:rT=true:=by rw[←HT.out];simp[Unt.tailOk,Unt.below];omega
       go_wp2_with fail
       go_ret
       exact ⟨rfl,HBE.out⟩
      ·have s1:decide (a<(lk:Int))=false:=decide_eq_false z1
       obtain rfl:rT=false:=by rw[←HT.out];simp[Unt.tailOk,Unt.below];omega
       go_wp2_with fail
       go_ret
       exact ⟨rfl,HBE.out⟩
     ·have s0:decide (0≤a)=false:=decide_eq_false z0
      obtain rfl:rT=false:=by rw[←HT.out];simp[Unt.tailOk,Unt.below];omega
      go_wp2_with fail
      go_ret
      exact ⟨rfl,HBE.out⟩
    have t0:(k==0)=false:=by simpa using k0'
    by_cases k2':k=2
    ·subst k2'
     by_cases z0:0≤a
     ·have s0:decide (0≤a)=true:=decide_eq_true z0
      by_cases z1:a≤30
      ·have s1:decide (a≤30)=true:=decide_eq_true z1
       obtain rfl:rT=true:=by rw[←HT.out];simp[Unt.tailOk,Unt.below];omega
       go_wp2_with fail
       go_ret
       exact ⟨rfl,HBE.out⟩
      ·have s1:decide (a≤30)=false:=decide_eq_false z1
       obtain rfl:rT=false:=by rw[←HT.out];simp[Unt.tailOk,Unt.below];omega
       go_wp2_with fail
       go_ret
       exact ⟨rfl,HBE.out⟩
     ·have s0:decide (0≤a)=false:=decide_eq_false z0
      obtain rfl:rT=false:=by rw[←HT.out];simp[Unt.tailOk,Unt.below];omega
      go_wp2_with fail
      go_ret
      exact ⟨rfl,HBE.out⟩
    have t2:(k==2)=false:=by simpa using k2'
    by_cases k9':k=9
    ·subst k9'
     by_cases z0:0≤a
     ·have s0:decide (0≤a)=true:=decide_eq_true z0
      by_cases z1:a≤30
      ·have s1:decide (a≤30)=true:=decide_eq_true z1
       obtain rfl:rT=true:=by rw[←HT.out];simp[Unt.tailOk,Unt.below];omega
       go_wp2_with fail
       go_ret
       exact ⟨rfl,HBE.out⟩
      ·have s1:decide (a≤30)=false:=decide_eq_false z1
       obtain rfl:rT=false:=by rw[←HT.out];simp[Unt.tailOk,Unt.below];omega
       go_wp2_with fail
       go_ret
       exact ⟨rfl,HBE.out⟩
     ·have s0:decide (0≤a)=false:=decide_eq_false z0
      obtain rfl:rT=false:=by rw[←HT.out];simp[Unt.tailOk,Unt.below];omega
      go_wp2_with fail
      go_ret
      exact ⟨rfl,HBE.out⟩
    have t9:(k==9)=false:=by simpa using k9'
    by_cases k5':k=5
    ·subst k5'
     by_cases z0:0≤a
     ·have s0:decide (0≤a)=true:=decide_eq_true z0
      by_cases z1:a<(lp:Int)
      ·have s1:decide (a<(lp:Int))=true:=decide_eq_true z1
       obtain rfl:rT=true:=by rw[←HT.out];simp[Unt.tailOk,Unt.below];omega
       go_wp2_with fail
       go_ret
       exact ⟨rfl,HBE.out⟩
      ·have s1:decide (a<(lp:Int))=false:=decide_eq_false z1
       obtain rfl:rT=false:=by rw[←HT.out];simp[Unt.tailOk,Unt.below];omega
       go_wp2_with fail
       go_ret
       exact ⟨rfl,HBE.out⟩
     ·have s0:decide (0≤a)=false:=decide_eq_false z0
      obtain rfl:rT=false:=by rw[←HT.out];simp[Unt.tailOk,Unt.below];omega
      go_wp2_with fail
      go_ret
      exact ⟨rfl,HBE.out⟩
    have t5:(k==5)=false:=by simpa using k5'
    by_cases k7':k=7
    ·subst k7'
     by_cases z0:0≤a
     ·have s0:decide (0≤a)=true:=decide_eq_true z0
      by_cases z1:a<(lp:Int)
      ·have s1:decide (a<(lp:Int))=true:=decide_eq_true z1
       obtain rfl:rT=true:=by rw[←HT.out];simp[Unt.tailOk,Unt.below];omega
       go_wp2_with fail
       go_ret
       exact ⟨rfl,HBE.out⟩
      ·have s1:decide (a<(lp:Int))=false:=decide_eq_false z1
       obtain rfl:rT=false:=by rw[←HT.out];simp[Unt.tailOk,Unt.below];omega
       go_wp2_with fail
       go_ret
       exact ⟨rfl,HBE.out⟩
     ·have s0:decide (0≤a)=false:=decide_eq_false z0
      obtain rfl:rT=false:=by rw[←HT.out];simp[Unt.tailOk,Unt.below];omega
      go_wp2_with fail
      go_ret
      exact ⟨rfl,HBE.out⟩
    have t7:(k==7)=false:=by simpa using k7'
    by_cases k18':k=18
    ·subst k18'
     by_cases z0:0≤a
     ·have s0:decide (0≤a)=true:=decide_eq_true z0
      by_cases z1:a<(lp:Int)
      ·have s1:decide (a<(lp:Int))=true:=decide_eq_true z1
       obtain rfl:rT=true:=by rw[←HT.out];simp[Unt.tailOk,Unt.below];omega
       go_wp2_with fail
       go_ret
       exact ⟨rfl,HBE.out⟩
      ·have s1:decide (a<(lp:Int))=false:=decide_eq_false z1
       obtain rfl:rT=false:=by rw[←HT.out];simp[Unt.tailOk,Unt.below];omega
       go_wp2_with fail
       go_ret
       exact ⟨rfl,HBE.out⟩
     ·have s0:decide (0≤a)=false:=decide_eq_false z0
      obtain rfl:rT=false:=by rw[←HT.out];simp[Unt.tailOk,Unt.below];omega
      go_wp2_with fail
      go_ret
      exact ⟨rfl,HBE.out⟩
    have t18:(k==18)=false:=by simpa using k18'
    by_cases k20':k=20
    ·subst k20'
     by_cases z0:0≤a
     ·have s0:decide (0≤a)=true:=decide_eq_true z0
      by_cases z1:a<(lp:Int)
      ·have s1:decide (a<(lp:Int))=true:=decide_eq_true z1
       obtain rfl:rT=true:=by rw[←HT.out];simp[Unt.tailOk,Unt.below];omega
       go_wp2_with fail
       go_ret
       exact ⟨rfl,HBE.out⟩
      ·have s1:decide (a<(lp:Int))=false:=decide_eq_false z1
       obtain rfl:rT=false:=by rw[←HT.out];simp[Unt.tailOk,Unt.below];omega
       go_wp2_with fail
       go_ret
       exact ⟨rfl,HBE.out⟩
     ·have s0:decide (0≤a)=false:=decide_eq_false z0
      obtain rfl:rT=false:=by rw[←HT.out];simp[Unt.tailOk,Unt.below];omega
      go_wp2_with fail
      go_ret
      exact ⟨rfl,HBE.out⟩
    have t20:(k==20)=false:=by simpa using k20'
    by_cases k6':k=6
    ·subst k6'
     have s0:decide (0≤a)=rT:=by rw[←HT.out];simp[Unt.tailOk]
     go_wp2_with fail
     go_ret
     exact ⟨rfl,HBE.out⟩
    have t6:(k==6)=false:=by simpa using k6'
    by_cases k15':k=15
    ·subst k15'
     by_cases z0:0≤a
     ·have s0:decide (0≤a)=true:=decide_eq_true z0
      by_cases z1:a<(lc:Int)
      ·have s1:decide (a<(lc:Int))=true:=decide_eq_true z1
       obtain rfl:rT=true:=by rw[←HT.out];simp[Unt.tailOk,Unt.below];omega
       go_wp2_with fail
       go_ret
       exact ⟨rfl,HBE.out⟩
      ·have s1:decide (a<(lc:Int))=false:=decide_eq_false z1
       obtain rfl:rT=false:=by rw[←HT.out];simp[Unt.tailOk,Unt.below];omega
       go_wp2_with fail
       go_ret
       exact ⟨rfl,HBE.out⟩
     ·have s0:decide (0≤a)=false:=decide_eq_false z0
      obtain rfl:rT=false:=by rw[←HT.out];simp[Unt.tailOk,Unt.below];omega
      go_wp2_with fail
      go_ret
      exact ⟨rfl,HBE.out⟩
    have t15:(k==15)=false:=by simpa using k15'
    by_cases k16':k=16
    ·subst k16'
     by_cases z0:0≤b
     ·have s0:decide (0≤b)=true:=decide_eq_true z0
      by_cases z1:b<(lc:Int)
      ·have s1:decide (b<(lc:Int))=true:=decide_eq_true z1
       obtain rfl:rT=true:=by rw[←HT.out];simp[Unt.tailOk,Unt.below];omega
       go_wp2_with fail
       go_ret
       exact ⟨rfl,HBE.out⟩
      ·have s1:decide (b<(lc:Int))=false:=decide_eq_false z1
       obtain rfl:rT=false:=by rw[←HT.out];simp[Unt.tailOk,Unt.below];omega
       go_wp2_with fail
       go_ret
       exact ⟨rfl,HBE.out⟩
     ·have s0:decide (0≤b)=false:=decide_eq_false z0
      obtain rfl:rT=false:=by rw[←HT.out];simp[Unt.tailOk,Unt.below];omega
      go_wp2_with fail
      go_ret
      exact ⟨rfl,HBE.out⟩
    have t16:(k==16)=false:=by simpa using k16'
    by_cases k21':k=21
    ·subst k21'
     by_cases a29:a=29
     ·subst a29
      obtain rfl:rT=true:=by rw[←HT.out];simp[Unt.tailOk]
      go_wp2_with fail
      go_ret
      exact ⟨rfl,HBE.out⟩
     have s29:(a==29)=false:=by simpa using a29
     by_cases a30:a=30
     ·subst a30
      obtain rfl:rT=true:=by rw[←HT.out];simp[Unt.tailOk]
      go_wp2_with fail
      go_ret
      exact ⟨rfl,HBE.out⟩
     have s30:(a==30)=false:=by simpa using a30
     obtain rfl:rT=false:=by rw[←HT.out];simp[Unt.tailOk,a29,a30]
     go_wp2_with fail
     go_ret
     exact ⟨rfl,HBE.out⟩
    have t21:(k==21)=false:=by simpa using k21'
    obtain rfl:rT=true:=by rw[←HT.out];simp[Unt.tailOk,k0',k2',k9',k5',k7',k18',k20',k6',k15',k16',k21']
    go_wp2_with fail
    go_ret
    exact ⟨rfl,HBE.out⟩
end
section
open Go Go.RowKit
namespace Mdl
def fewC (n:Int):List Cod→Int→Bool
 | [],_=>true
 | c::l,k=>decide ((c.body.all:Int)≤n)&&(decide (k+c.body.all≤n)&&fewC n l (k+c.body.all))
def fewB (m:Mdl) (n:Int):Bool:=decide (m.codes.length≤50)&&(decide (m.consts.length≤100)&&(decide ((Dat.allL m.consts:Int)≤2000)&&(decide ((m.body.all:Int)≤n)&&fewC n m.codes m.body.all)))
theorem fewC_step {n k:Int} {l:List Cod} {j:Nat} {c:Cod} (h:l[j]?=some c):fewC n (l.drop j) k=(decide ((c.body.all:Int)≤n)&&(decide (k+c.body.all≤n)&&fewC n (l.drop (j+1)) (k+c.body.all))):=by
 obtain ⟨hj,he⟩:=List.getElem?_eq_some_iff.1 h
 rw[List.drop_eq_getElem_cons hj,he,fewC]
theorem ze3 {n:Int}:∀{l:List Cod} {k:Int},fewC n l k=true→∀c∈l,(c.body.all:Int)≤n
 | [],_,_,c,h=>by simp at h
 | x::l,k,h,c,hc=>by
  rw[fewC] at h
  simp only[Bool.and_eq_true,decide_eq_true_eq] at h
  rcases List.mem_cons.1 hc with rfl | hc
  ·exact h.1
  ·exact ze3 h.2.2 c hc
theorem zff {n:Int}:∀{l:List Cod} {k:Int},fewC n l k=true→k≤n→k+((l.map fun c=>c.body.all).sum:Nat)≤n
 | [],_,_,hk=>by simpa using hk
 | x::l,k,h,_=>by
  rw[fewC] at h
  simp only[Bool.and_eq_true,decide_eq_true_eq] at h
  have:=zff h.2.2 h.2.1
  simp only[List.map_cons,List.sum_cons]
  omega
theorem few_facts {m:Mdl} {n:Int} (h:m.fewB n=true):m.codes.length≤50∧m.consts.length≤100∧(Dat.allL m.consts:Int)≤2000∧(m.body.all:Int)≤n∧(∀c∈m.codes,(c.body.all:Int)≤n)∧(m.body.all:Int)+((m.codes.map fun c=>c.body.all).sum:Nat)≤n:=by
 simp only[fewB,Bool.and_eq_true,decide_eq_true_eq] at h
 obtain ⟨h1,h2,h3,h4,h5⟩:=h
 exact ⟨h1,h2,h3,h4,ze3 h5,zff h5 h4⟩
end Mdl
theorem zhh (m:Mdl) (v:Value) (n:Int) (B:Nat) (w:World) (hv:MdlR w B m v) (hB:B≤w.heap.size) (h0:0≤n) (h1:n≤900) (r:Bool) (hr:m.fewB n=r) :
  Calls prog 5 #[v,.int .i64 n] w fun e w'=>e=.returned (.bool r)∧Below w.heap.size w w':=by
 obtain ⟨cc,pp,b0,b1,b2,b3,rfl,hcon,hcod,hbody⟩:=hv
 obtain ⟨oc,lc,kc,rfl⟩:∃o l c,cc=.slice o l c:=by obtain ⟨o,l,c,h,_⟩:=hcon;exact ⟨o,l,c,h⟩
 have hlc:lc=m.consts.length:=by
  obtain ⟨o,l,c,h,h2,_⟩:=hcon
  simp only[Value.slice.injEq] at h
  obtain ⟨rfl,rfl,rfl⟩:=h
  exact h2
 obtain ⟨op,lp,kp,rfl⟩:=hcod.form
 obtain ⟨hlp,hkp,hmp⟩:=hcod.lens
 obtain ⟨q,r',u,q',r'',u',rfl,rfl,rfl,rfl⟩:=zfl hbody
 obtain ⟨W1,hW1⟩:∃W1,w.alloc (.cells #[.slice oc lc kc,.slice op lp kp,.int .i64 m.body.op,.int .i64 m.body.n,.slice q r' u,.slice q' r'' u'] 29)=W1:=⟨_,rfl⟩
 have HB1:=zh (show Below w.heap.size w W1 from by rw[←hW1];exact Below.one w _)
 have HX1:=zh (show BoxL W1 w.heap.size 29 [.slice oc lc kc,.slice op lp kp,.int .i64 m.body.op,.int .i64 m.body.n,.slice q r' u,.slice q' r'' u'] from by rw[←hW1];exact BoxL.new rfl _ _)
 have HW:=zh hW1
 have HCON:=zh hcon
 have HCOD:=zh hcod
 have HBODY:=zh hbody
 have HLP:=zh hlp
 have u0:=HX1.out.cell 0 rfl
 have u1:=HX1.out.cell 1 rfl
 have u2:=HX1.out.cell 2 rfl
 have u3:=HX1.out.cell 3 rfl
 have u4:=HX1.out.cell 4 rfl
 have u5:=HX1.out.cell 5 rfl
 have ul:=HX1.out.lt
 by_cases c1:50<lp
 ·obtain rfl:false=r:=by
   rw[←hr,Mdl.fewB,←hlp,decide_eq_false (show ¬lp≤50 by omega)];rfl
  have d1:decide ((50:Int)<(lp:Int))=true:=decide_eq_true (by omega)
  clear hr hlp hlc hcon hcod hbody hW1
  go_enter func5,ntmps5
  go_upto_region 1 with fail
  rw[HW.out]
  go_wp2_with fail
  all_goals go_ret
  all_goals exact ⟨rfl,HB1.out⟩
 have d1:decide ((50:Int)<(lp:Int))=false:=decide_eq_false (by omega)
 by_cases c2:100<lc
 ·obtain rfl:false=r:=by
   rw[←hr,Mdl.fewB,←hlc,decide_eq_false (show ¬lc≤100 by omega)];simp
  have d2:decide ((100:Int)<(lc:Int))=true:=decide_eq_true (by omega)
  clear hr hlp hlc hcon hcod hbody hW1
  go_enter func5,ntmps5
  go_upto_region 1 with fail
  rw[HW.out]
  go_wp2_with fail
  all_goals go_ret
  all_goals exact ⟨rfl,HB1.out⟩
 have d2:decide ((100:Int)<(lc:Int))=false:=decide_eq_false (by omega)
 obtain ⟨f1,hf1⟩:∃f1,decide ((Dat.allL m.consts:Int)≤2000)=f1:=⟨_,rfl⟩
 obtain ⟨f2,hf2⟩:∃f2,decide ((m.body.all:Int)≤n)=f2:=⟨_,rfl⟩
 have HR:=zh (show (f1&&(f2&&Mdl.fewC n m.codes m.body.all))=r from by rw[←hr,Mdl.fewB,←hlp,←hlc,decide_eq_true (show lp≤50 by omega),decide_eq_true (show lc≤100 by omega),hf1,hf2];rfl)
 have HC1:=zh (zgu m.consts (.slice oc lc kc) 2000 B W1 (HCON.out.kept (HB1.out.mono hB)) (by have:=HB1.out.size;omega) (by omega) (by omega) f1 hf1)
 have HF2:=zh hf2
 clear hr hlp hlc hcon hcod hbody hW1 hf1 hf2
 go_enter func5,ntmps5
 go_upto_region 1 with fail
 rw[HW.out]
 go_wp2_with fail
 with_reducible refine HC1.out.mono ?_
 rintro e w2 ⟨rfl,hb2⟩
 have HB2:=zh (HB1.out.trans (hb2.mono HB1.out.size))
 have HX2:=zh (HX1.out.keep hb2)
 clear hb2 HC1 u0 u1 u2 u3 u4 u5 ul
 cases f1 with
 | false=>
  obtain rfl:r=false:=by rw[←HR.out];rfl
  go_wp2_with fail
  all_goals go_ret
  all_goals exact ⟨rfl,HB2.out⟩
 | true=>
  have u2:=HX2.out.cell 2 rfl
  have u3:=HX2.out.cell 3 rfl
  have u4:=HX2.out.cell 4 rfl
  have u5:=HX2.out.cell 5 rfl
  have ul:=HX2.out.lt
  have HC2:=zh (zfw m.body _ _ _ _ n B w2 (TrmR.kept (HB2.out.mono hB) _ _ HBODY.out) (by have:=HB2.out.size;omega) h0 (by omega))
  rw[HF2.out] at HC2
  go_wp2_with fail
  with_reducible refine HC2.out.mono ?_
  rintro e w3 ⟨rfl,hb3⟩
  have HB3:=zh (HB2.out.trans (hb3.mono HB2.out.size))
  have HX3:=zh (HX2.out.keep hb3)
  clear hb3 HC2 u2 u3 u4 u5 ul
  cases f2 with
  | false=>
   obtain rfl:r=false:=by rw[←HR.out];rfl
   go_wp2_with fail
   all_goals go_ret
   all_goals exact ⟨rfl,HB3.out⟩
  | true=>
   have HF:=zh (show Mdl.fewC n m.codes m.body.all=r from by rw[←HR.out];rfl)
   have u2:=HX3.out.cell 2 rfl
   have u3:=HX3.out.cell 3 rfl
   have u4:=HX3.out.cell 4 rfl
   have u5:=HX3.out.cell 5 rfl
   have ul:=HX3.out.lt
   have hbn:(m.body.all:Int)≤n:=of_decide_eq_true HF2.out
   have HC3:=zh (zee m.body _ _ _ _ B w3 (TrmR.kept (HB3.out.mono hB) _ _ HBODY.out) (by have:=HB3.out.size;omega) (by omega))
   obtain ⟨k0,hk0⟩:∃k0,m.body.all=k0:=⟨_,rfl⟩
   rw[hk0] at HC3 HF hbn
   clear hk0
   go_wp2_with fail
   with_reducible refine HC3.out.mono ?_
   rintro e w4 ⟨rfl,hb4⟩
   have HB4:=zh (HB3.out.trans (hb4.mono HB3.out.size))
   have HX4:=zh (HX3.out.keep hb4)
   clear hb4 HC3 u2 u3 u4 u5 ul
   go_wp2_with fail
   go_loopg [5,6] lp (fun g a i wr=>∃(j:Nat) (k:Int),g=lp-j∧j≤lp∧a=.int .i64 k∧i=.int .i64 j∧0≤k∧k≤n∧Hid (Mdl.fewC n (m.codes.drop j) k=r)∧Hid (Below w4.heap.size w4 wr))
   case atStart=>exact ⟨0,k0,rfl,by omega,rfl,rfl,by omega,hbn,HF,zh (Below.refl _ _)⟩
   case round=>
    obtain ⟨j,k,rfl,hj,rfl,rfl,hk0,hk1,HS,HBR⟩:=hrel
    have HXR:=zh (HX4.out.keep HBR.out)
    have HBW:=zh (HB4.out.trans (HBR.out.mono HB4.out.size))
    have u1:=HXR.out.cell 1 rfl
    have ul:=HXR.out.lt
    by_cases hjl:j<lp
    ·obtain ⟨c,hx⟩:∃c,m.codes[j]?=some c:=⟨_,List.getElem?_eq_getElem (by rw[←HLP.out];exact hjl)⟩
     obtain ⟨b,off,cs,ho,_,hcl,hcell,hcr⟩:=HCOD.out.at (HBW.out.mono hB) hx
     subst ho
     obtain ⟨vs,d0,d1,d2,d3,rfl,_,hir⟩:=hcr
     have e2:=hcell 2 _ rfl
     have e3:=hcell 3 _ rfl
     have e4:=hcell 4 _ rfl
     have e5:=hcell 5 _ rfl
     have HST:=zh (Mdl.fewC_step (n:=n) (k:=k) hx)
     obtain ⟨q3,hq3⟩:∃q3,decide ((c.body.all:Int)≤n)=q3:=⟨_,rfl⟩
     have HI:=zh (TrmR.kept (HBW.out.mono hB) _ _ hir)
     have HCA:=zh (zfw c.body d0 d1 d2 d3 n B wr HI.out (by have:=HBW.out.size;omega) h0 (by omega))
     rw[hq3] at HCA HST
     have HQ3:=zh hq3
     have hbl:=zac e2
     clear hx hcell hcl hir hq3
     go_wp2_with fail
     with_reducible refine HCA.out.mono ?_
     rintro e w5 ⟨rfl,hb5⟩
     have HB5:=zh (HBR.out.trans (hb5.mono HBR.out.size))
     have HX5:=zh (HXR.out.keep hb5)
     have E2:=zh ((hb5.cell (p:=⟨b,off+j*6+2,none⟩) hbl).trans e2)
     have E3:=zh ((hb5.cell (p:=⟨b,off+j*6+3,none⟩) hbl).trans e3)
     have E4:=zh ((hb5.cell (p:=⟨b,off+j*6+4,none⟩) hbl).trans e4)
     have E5:=zh ((hb5.cell (p:=⟨b,off+j*6+5,none⟩) hbl).trans e5)
     have HI5:=zh (TrmR.kept (hb5.mono (by have:=HBW.out.size;omega)) _ _ HI.out)
     have hz5:=hb5.size
     clear hb5 HCA u1 ul e2 e3 e4 e5 HI
     cases q3 with
     | false=>
      obtain rfl:r=false:=by rw[←HS.out,HST.out];rfl
      go_wp2_with fail
      all_goals go_ret
      all_goals exact ⟨rfl,HB4.out.trans (HB5.out.mono HB4.out.size)⟩
     | true=>
      have e2:=E2.out
      have e3:=E3.out
      have e4:=E4.out
      have e5:=E5.out
      have u1:=HX5.out.cell 1 rfl
      have ul:=HX5.out.lt
      have hcn:(c.body.all:Int)≤n:=of_decide_eq_true HQ3.out
      have HCS:=zh (zee c.body d0 d1 d2 d3 B w5 HI5.out (by have:=HBW.out.size;omega) (by omega))
      obtain ⟨kc2,hkc⟩:∃kc2,c.body.all=kc2:=⟨_,rfl⟩
      rw[hkc] at HCS HST hcn
      clear hkc
      go_wp2_with fail
      with_reducible refine HCS.out.mono ?_
      rintro e w6 ⟨rfl,hb6⟩
      have HB6:=zh (HB5.out.trans (hb6.mono HB5.out.size))
      clear hb6 HCS u1 ul e2 e3 e4 e5
      by_cases a4:n<k+(kc2:Int)
      ·have f4:decide (n<k+(kc2:Int))=true:=decide_eq_true a4
       obtain rfl:r=false:=by rw[←HS.out,HST.out,decide_eq_false (show ¬k+(kc2:Int)≤n by omega)];rfl
       go_wp2_with fail
       all_goals go_ret
       all_goals exact ⟨rfl,HB4.out.trans (HB6.out.mono HB4.out.size)⟩
      ·have f4:decide (n<k+(kc2:Int))=false:=decide_eq_false a4
       have HS2:=zh (show Mdl.fewC n (m.codes.drop (j+1)) (k+kc2)=r from by rw[←HS.out,HST.out,decide_eq_true (show k+(kc2:Int)≤n by omega)];rfl)
       go_wp2_with fail
       go_roundg (lp-(j+1))
       case measure=>omega
       case rel=>exact ⟨j+1,k+kc2,rfl,by omega,rfl,by go_num,by omega,by omega,HS2,HB6⟩
    ·obtain rfl:j=lp:=by omega
     obtain rfl:r=true:=by rw[←HS.out,List.drop_eq_nil_of_le (by rw[←HLP.out];exact Nat.le_refl _)];rfl
     go_wp2_with fail
     all_goals go_ret
     all_goals exact ⟨rfl,HBW.out⟩
end
section
open Go Go.RowKit
theorem zg3 (x:Dat) (v:Value) (B:Nat) (w:World) (hv:RepD w B x v) (hB:B≤w.heap.size) :
  Calls prog 56 #[v] w fun e w'=>e=.returned (.bool (!Dat.right x 0))∧Below w.heap.size w w':=by
 obtain ⟨k,n,d,s,o,len,cap,rfl⟩:=zhV hv
 obtain ⟨r,hr⟩:∃r,Dat.right x 0=r:=⟨_,rfl⟩
 rw[hr]
 have HC:=zh (fun X=>zdu x _ B (w.alloc X) r hr (hv.kept ((Below.one w X).mono hB)) (by simp;omega))
 clear hr hv
 go_enter func56,ntmps56
 go_wp2_with fail
 refine (HC.out _).mono ?_
 rintro e w1 ⟨rfl,hb1⟩
 go_wp2_with fail
 go_ret
 exact ⟨rfl,zaY hb1⟩
theorem zdy (l:List Dat) (v:Value) (B:Nat) (w:World) (hv:RepS w B l v) (hB:B≤w.heap.size) :
  Calls prog 31 #[v] w fun e w'=>e=.returned (.bool (l.all fun x=>Dat.right x 0))∧Below w.heap.size w w':=by
 obtain ⟨rc,hrc⟩:∃rc,l.any (fun x=>!Dat.right x 0)=rc:=⟨_,rfl⟩
 have HR:=zh (show (l.all fun x=>Dat.right x 0) = !rc from by rw[←hrc,List.not_any_eq_all_not];simp only[Bool.not_not])
 have HC:=zh (zbi 56 #[] (fun x=>!Dat.right x 0) rc l v B w hv hB (fun _ _=>rfl) (fun x _ v W hr hbW=>by
  exact zg3 x v B W hr (by have:=hbW.size;omega)) hrc)
 obtain ⟨o,len,cap,rfl,hx⟩:=hv
 clear hx hrc
 rw[HR.out]
 go_enter func31,ntmps31
 go_wp2_with fail
 refine HC.out.mono ?_
 rintro e w1 ⟨rfl,hb1⟩
 have HB:=zh hb1
 clear hb1 HC
 go_wp2_with fail
 go_ret
 exact ⟨rfl,HB.out⟩
theorem zb2 (o n:Int) (vs ts:Value) (ov ot:Option Addr) (lv cv lt ct:Nat) (hv:vs=.slice ov lv cv) (ht:ts=.slice ot lt ct) (w:World) :
  Calls prog 60 #[.agg #[.int .i64 o,.int .i64 n,vs,ts]] w fun e w'=>e=.returned (.bool (o==7 || o==9))∧Below w.heap.size w w':=by
 subst hv ht
 by_cases h7:o=7
 ·subst h7
  go_enter func60,ntmps60
  go_wp2_with fail
  go_ret
  exact ⟨rfl,by first | exact Below.one w _ | exact Below.drewN (Below.one w _) _⟩
 ·have f7:(o==7)=false:=by simpa using h7
  rw[f7]
  go_enter func60,ntmps60
  go_wp2_with fail
  go_ret
  exact ⟨rfl,by first | exact Below.one w _ | exact Below.drewN (Below.one w _) _⟩
theorem zgS (mb:Nat) (cv mv:Value) (r:Int) (w:World) (hm:BoxL w mb 77 [cv,.int .i64 r,mv]) (h0:0≤r) (h1:r≤2000000) :
  Calls prog 95 #[.pointer (some ⟨mb,0,none⟩)] w fun e w'=>e=.returned (.int .i64 r)∧w'=w.setCell ⟨mb,1,none⟩ (.int .i64 (r+1)):=by
 have x1:=hm.cell 1 rfl
 have z1:=hm.free 1
 have hl:=hm.lt
 have hs:=(hm.set 1 (.int .i64 (r+1))).cell 1 rfl
 go_enter func95,ntmps95
 go_wp2_with fail
 go_ret
 exact ⟨rfl,rfl⟩
end
section
open Go.RowKit
end
section
open Go.RowKit
section
variable {P : Program} {ops : Array Oper} {Q : Exit → Act → World → Prop} {o : Oper} {a : Act} {w w' : World}
end
theorem za5 {W V:World} {a:Addr} {v:Value} (h:V=W.drew) (hc:W.cell? a=some v):V.cell? a=some v:=by rw[h];exact hc
theorem BoxL.ne {W:World} {b c:Nat} {t u:TypeId} {xs ys:List Value} (h:BoxL W b t xs) (h':BoxL W c u ys) (hne:t≠u):b≠c:=by
 rintro rfl
 have:=(show W.heap[b]?=_ from h).symm.trans h'
 simp at this
 exact hne this.2
end
section
namespace Live
open Unt Peep
theorem zex {nk np:Int}:∀{l:List Proc} {all:Int} {p:Proc},procsB nk np l all=true→p∈l→headB p=true∧lastB (lastOp p.code)=true∧∀x∈p.code,fits x p.regs p.code.length np nk=true
 | [],_,_,_,h=>by simp at h
 | q::l,all,p,h,hp=>by
  simp only[procsB,Bool.and_eq_true] at h
  rcases List.mem_cons.1 hp with rfl | hp
  ·exact ⟨h.1,h.2.2.1,List.all_eq_true.1 h.2.2.2.1⟩
  ·exact zex h.2.2.2.2 hp
end Live
end
section
open Go.RowKit
end
section
open Go.RowKit
end
section
open Go.RowKit
end
section
open Go Go.RowKit
def S3 (a b c:Nat) (x:Nat):Prop:=x=a∨x=b∨x=c
def setOf (l:List Int):Int→Bool:=Trm.addV (fun _=>false) l
structure ChkS (W:World) (cb bb sb:Nat) (nc nk:Int) (fr:Bool) (size:Int) (l:List Int) (sc:Int→Bool):Prop where
 box:BoxL W cb 70 [.int .i64 3,.int .i64 nc,.int .i64 nk,.bool fr,.int .i64 size,.map (some bb)]
 bound:MapVB W bb l.length (setOf l)
 scope:MapVB W sb l.length sc
 new:Trm.newB (fun _=>false) l=true
 ne:bb≠sb
structure ChkX (W:World) (cb bb sb:Nat) (nc nk:Int) (fr:Bool):Prop where
 box:∃size,BoxL W cb 70 [.int .i64 3,.int .i64 nc,.int .i64 nk,.bool fr,.int .i64 size,.map (some bb)]
 bound:∃m f,MapVB W bb m f
 scope:∃m f,MapVB W sb m f
 ne:bb≠sb
theorem ChkS.bad {W:World} {cb bb sb:Nat} {nc nk:Int} {fr:Bool} {size:Int} {l:List Int} {sc:Int→Bool} (h:ChkS W cb bb sb nc nk fr size l sc):ChkX W cb bb sb nc nk fr:=⟨⟨_,h.box⟩,⟨_,_,h.bound⟩,⟨_,_,h.scope⟩,h.ne⟩
theorem zaD {W:World} {b c n:Nat} {f:Int→Bool} {t:TypeId} {cs:List Value} (h:MapVB W b n f) (hc:BoxL W c t cs):c≠b:=fun e=>by
 subst e
 obtain ⟨D,⟨es,clock,hb,_⟩,_⟩:=h
 rw[show W.heap[c]?=_ from hc] at hb
 simp at hb
theorem ChkS.keep {W W':World} {cb bb sb:Nat} {nc nk:Int} {fr:Bool} {size:Int} {l:List Int} {sc:Int→Bool} (h:ChkS W cb bb sb nc nk fr size l sc) (hb:Below W.heap.size W W'):ChkS W' cb bb sb nc nk fr size l sc:=⟨h.box.keep hb,h.bound.keep hb,h.scope.keep hb,h.new,h.ne⟩
theorem ChkX.keep {W W':World} {cb bb sb:Nat} {nc nk:Int} {fr:Bool} (h:ChkX W cb bb sb nc nk fr) (hb:Below W.heap.size W W'):ChkX W' cb bb sb nc nk fr:=by
 obtain ⟨⟨s,h1⟩,⟨m,f,h2⟩,⟨m',f',h3⟩,h4⟩:=h
 exact ⟨⟨s,h1.keep hb⟩,⟨m,f,h2.keep hb⟩,⟨m',f',h3.keep hb⟩,h4⟩
theorem ChkS.room {W:World} {cb bb sb:Nat} {nc nk:Int} {fr:Bool} {size:Int} {l:List Int} {sc:Int→Bool} (h:ChkS W cb bb sb nc nk fr size l sc):l.length≤1000001:=Trm.newB_short h.new
theorem zgb (l:List Int) (x:Int):setOf (l++[x])=fun y=>if y=x then true else setOf l y:=by
 funext y
 by_cases h:y=x
 ·simp[setOf,Trm.addV,h]
 ·simp[setOf,Trm.addV,h]
theorem zhZ (f:Int→Bool) (l:List Int) (x:Int):Trm.addV f (l++[x])=fun y=>if y=x then true else Trm.addV f l y:=by
 funext y
 by_cases h:y=x
 ·simp[Trm.addV,h]
 ·simp[Trm.addV,h]
theorem zin {l:List Int} {x:Int} (h:Trm.newB (fun _=>false) l=true):Trm.newB (fun _=>false) (l++[x])=(decide (0≤x)&&(decide (x≤1000000) && !setOf l x)):=by
 rw[Trm.newB_append,h,Bool.true_and,Trm.newB,Trm.newB,Bool.and_true]
 rfl
theorem zeJ {l m:List Int} (h:Trm.newB (fun _=>false) l=false):Trm.newB (fun _=>false) (l++m)=false:=by rw[Trm.newB_append,h,Bool.false_and]
def ChkPost (cb bb sb:Nat) (nc nk:Int) (fr:Bool) (r:Bool) (Good:World→Prop) (w:World) (e:Ending) (w':World):Prop:=e=.returned (.bool r)∧Turned (S3 cb bb sb) w w'∧(r=true→Good w')∧(r=false→ChkX w' cb bb sb nc nk fr)
theorem zdB (cb bb sb:Nat) (nc nk:Int) (fr:Bool) (size:Int) (l v:List Int) (sc:Int→Bool) (B:Nat) (w:World) (ov:Option Addr) (lv cv:Nat) (hv:SlC w B 1 IntR v (.slice ov lv cv)) (hS:∀b,S3 cb bb sb b→B≤b) (hB:B≤w.heap.size) (hc:ChkS w cb bb sb nc nk fr size l sc) :
  Calls prog 33 #[.pointer (some ⟨cb,0,none⟩),.slice ov lv cv,.map (some sb)] w (ChkPost cb bb sb nc nk fr (Trm.newB (fun _=>false) (l++v)) (fun w'=>ChkS w' cb bb sb nc nk fr size (l++v) (Trm.addV sc v)) w):=by
 obtain ⟨r,hr⟩:∃r,Trm.newB (fun _=>false) (l++v)=r:=⟨_,rfl⟩
 rw[hr]
 have HR:=zh hr
 have HV:=zh hv
 obtain ⟨hlen,hcap,hmax⟩:=hv.lens
 have HL:=zh hlen
 have HC:=zh hc
 have HSB:=zh hS
 clear hr hv hlen hc hS
 go_enter func33,ntmps33
 go_wp2_with fail
 go_loopg [11] lv (fun g i wr=>∃(j:Nat),g=lv-j∧i=.int .i64 j∧j≤lv∧Hid (ChkS wr cb bb sb nc nk fr size (l++v.take j) (Trm.addV sc (v.take j)))∧Hid (Turned (S3 cb bb sb) w wr))
 case atStart=>exact ⟨0,rfl,rfl,by omega,by rw[List.take_zero,List.append_nil,Trm.addV_nil];exact HC,zh (Turned.refl _ _)⟩
 case round=>
  obtain ⟨j,rfl,rfl,hj,HA,HT⟩:=hrel
  by_cases hjl:j<lv
  ·obtain ⟨x,hx⟩:∃x,v[j]?=some x:=⟨_,List.getElem?_eq_getElem (by rw[←HL.out];exact hjl)⟩
   obtain ⟨b,off,cs,ho,_,hcl,hcell,hir⟩:=HV.out.at (HT.out.below HSB.out hB) hx
   subst ho
   obtain ⟨rfl,hxi⟩:=hir
   have e0:=hcell 0 _ rfl
   simp only[Nat.add_zero,Nat.mul_one] at e0
   have HTK:=zh (show v.take (j+1)=v.take j++[x] by rw[List.take_add_one,hx];rfl)
   have HI:=zh hxi
   have c5:=HA.out.box.cell 5 rfl
   have cl:=HA.out.box.lt
   have HNB:=zh (zin (x:=x) HA.out.new)
   have hrm:=HA.out.room
   have HBAD:=zh (fun (h:Trm.newB (fun _=>false) (l++v.take j++[x])=false)=>show r=false from by
    have h2:=zeJ (m:=v.drop (j+1)) h
    have e:l++v.take j++[x]++v.drop (j+1)=l++v:=by rw[List.append_assoc l,←HTK.out,List.append_assoc,List.take_append_drop]
    rw[e] at h2
    rw[←HR.out,h2])
   clear hx hcell hxi
   by_cases hx0:x<0
   ·obtain rfl:r=false:=HBAD.out (by rw[HNB.out,decide_eq_false (by omega)];rfl)
    go_wp2_with fail
    go_ret
    exact ⟨rfl,HT.out,fun h=>by simp at h,fun _=>HA.out.bad⟩
   ·have fx0:decide (x<0)=false:=decide_eq_false hx0
    by_cases hx1:1000000<x
    ·obtain rfl:r=false:=HBAD.out (by rw[HNB.out,decide_eq_false (show ¬x≤1000000 by omega)];simp)
     go_wp2_with fail
     go_ret
     exact ⟨rfl,HT.out,fun h=>by simp at h,fun _=>HA.out.bad⟩
    ·have fx1:decide (1000000<x)=false:=decide_eq_false hx1
     obtain ⟨q,hq⟩:∃q,setOf (l++v.take j) x=q:=⟨_,rfl⟩
     have HLK:=zh HA.out.bound
     have hnb:=HNB.out
     rw[hq,decide_eq_true (show 0≤x by omega),decide_eq_true (show x≤1000000 by omega),Bool.true_and,Bool.true_and] at hnb
     cases q with
     | true=>
      obtain rfl:r=false:=HBAD.out (by rw[hnb];rfl)
      go_wp2_with (at_lookup;refine zbv rfl _ _ rfl bb _ (setOf (l++v.take j)) rfl HLK.out x rfl HI.out ?_;rw[hq])
      go_ret
      exact ⟨rfl,HT.out,fun h=>by simp at h,fun _=>HA.out.bad⟩
     | false=>
      have hms:cb≠bb:=zaD HA.out.bound HA.out.box
      have hmt:cb≠sb:=zaD HA.out.scope HA.out.box
      have HNX:=zh (show Trm.newB (fun _=>false) (l++v.take (j+1))=true from by rw[HTK.out,←List.append_assoc,hnb];rfl)
      have HQ:=zh hq
      clear hnb HBAD hq HNB
      go_wp2_with (first
       | (at_lookup;refine zbv rfl _ _ rfl bb _ (setOf (l++v.take j)) rfl HLK.out x rfl HI.out ?_;rw[HQ.out])
       | (refine zda rfl _ _ rfl bb _ (setOf (l++v.take j)) rfl HLK.out (by omega) x rfl HI.out ?_;intro w1 v0 st HLD)
       | (refine zdd rfl _ _ _ rfl bb _ (setOf (l++v.take j)) x _ true HLD rfl rfl rfl ?_;intro w2 hm2 hg2;have HM2:=zh hm2;have HG2:=zh hg2;have HS2:=zh (HA.out.scope.same (hg2.block sb HA.out.scope.lt (fun e=>HA.out.ne (by simpa using e.symm))));clear hm2 hg2)
       | (at_mapUpdate;refine zek rfl _ _ _ rfl sb _ (Trm.addV sc (v.take j)) rfl HS2.out (by omega) x true rfl rfl HI.out ?_;intro w3 hm3 hg3;have HM3:=zh hm3;have HG3:=zh hg3;clear hm3 hg3))
      have hm3:=HM3.out
      have hg3:=HG3.out
      have HN:=zh (show ChkS w3 cb bb sb nc nk fr size (l++v.take (j+1)) (Trm.addV sc (v.take (j+1))) from by
       have hne:=HA.out.ne
       have hl1:(l++v.take (j+1)).length=(l++v.take j).length+1:=by rw[HTK.out];simp only[List.length_append,List.length_cons,List.length_nil];omega
       refine ⟨(hg3.block cb (Nat.lt_of_lt_of_le HA.out.box.lt HG2.out.size) (fun e=>hmt (by simpa using e))).trans ((HG2.out.block cb HA.out.box.lt (fun e=>hms (by simpa using e))).trans HA.out.box),?_,?_,HNX.out,hne⟩
       ·rw[hl1,HTK.out,←List.append_assoc,zgb]
        exact HM2.out.same (hg3.block bb HM2.out.lt (fun e=>hne (by simpa using e)))
       ·rw[hl1,HTK.out,zhZ]
        exact hm3)
      have HT3:=zh (HT.out.next ((Turned.grown (S:=S3 cb bb sb) HG2.out (fun b hb=>.inr (.inl (by simpa using hb.symm)))).next (Turned.grown hg3 (fun b hb=>.inr (.inr (by simpa using hb.symm))))))
      clear hm3 hg3
      go_roundg (lv-(j+1))
      case measure=>omega
      case rel=>exact ⟨j+1,rfl,by go_num,by omega,HN,HT3⟩
  ·obtain rfl:j=lv:=by omega
   have HE:=zh (show v.take j=v from List.take_of_length_le (by rw[←HL.out];exact Nat.le_refl _))
   obtain rfl:r=true:=by
    have:=HA.out.new
    rw[HE.out] at this
    rw[←HR.out,this]
   go_wp2_with fail
   go_ret
   exact ⟨rfl,HT.out,fun _=>by rw[←HE.out];simpa using HA.out,fun h=>by simp at h⟩
end
section
open Go Go.RowKit
theorem zi4 (cb sb bb m:Nat) (nc nk size n:Int) (fr:Bool) (sc:Int→Bool) (ov ot:Option Addr) (lv cv lt ct:Nat) (w:World) (hn:I64 n) (hc:BoxL w cb 70 [.int .i64 3,.int .i64 nc,.int .i64 nk,.bool fr,.int .i64 size,.map (some bb)]) (hm:MapVB w sb m sc) (r:Bool) (hr:Trm.numberB nc nk fr sc 0 n=r) :
  Calls prog 59 #[.pointer (some ⟨cb,0,none⟩),.agg #[.int .i64 0,.int .i64 n,.slice ov lv cv,.slice ot lt ct],.map (some sb)] w fun e w'=>e=.returned (.bool r)∧Below w.heap.size w w':=by
 have hb:Below w.heap.size w (w.alloc (.cells #[.int .i64 0,.int .i64 n,.slice ov lv cv,.slice ot lt ct] 27)):=Below.one w _
 have HB:=zh hb
 have HR:=zh hr
 have c1:=hc.cell 1 rfl
 have c2:=hc.cell 2 rfl
 have c3:=hc.cell 3 rfl
 have cl:=hc.lt
 have HM:=zh hm
 have HN:=zh hn
 clear hb hr hc hm hn
 by_cases h0:0≤n
 ·by_cases h1:n<nc
  ·obtain rfl:true=r:=by rw[←HR.out];simp[Trm.numberB,h0,h1]
   go_enter func59,ntmps59
   go_upto_region 3 with fail
   go_region
   all_goals (go_wp2_with fail;go_ret;first | exact ⟨rfl,HB.out⟩ | exact ⟨rfl,Below.drewN HB.out 1⟩ | exact ⟨rfl,Below.drewN HB.out _⟩)
  ·obtain rfl:false=r:=by rw[←HR.out];simp[Trm.numberB,h1]
   have f1:decide (n<nc)=false:=decide_eq_false h1
   clear h1
   go_enter func59,ntmps59
   go_upto_region 3 with fail
   go_region
   all_goals (go_wp2_with fail;go_ret;first | exact ⟨rfl,HB.out⟩ | exact ⟨rfl,Below.drewN HB.out 1⟩ | exact ⟨rfl,Below.drewN HB.out _⟩)
 ·obtain rfl:false=r:=by rw[←HR.out];simp[Trm.numberB,h0]
  have f0:decide (0≤n)=false:=decide_eq_false h0
  clear h0
  go_enter func59,ntmps59
  go_upto_region 3 with fail
  go_region
  all_goals (go_wp2_with fail;go_ret;first | exact ⟨rfl,HB.out⟩ | exact ⟨rfl,Below.drewN HB.out 1⟩ | exact ⟨rfl,Below.drewN HB.out _⟩)
theorem zkp (cb sb bb m:Nat) (nc nk size n:Int) (fr:Bool) (sc:Int→Bool) (ov ot:Option Addr) (lv cv lt ct:Nat) (w:World) (hn:I64 n) (hc:BoxL w cb 70 [.int .i64 3,.int .i64 nc,.int .i64 nk,.bool fr,.int .i64 size,.map (some bb)]) (hm:MapVB w sb m sc) (r:Bool) (hr:Trm.numberB nc nk fr sc 1 n=r) :
  Calls prog 59 #[.pointer (some ⟨cb,0,none⟩),.agg #[.int .i64 1,.int .i64 n,.slice ov lv cv,.slice ot lt ct],.map (some sb)] w fun e w'=>e=.returned (.bool r)∧Below w.heap.size w w':=by
 have hb:Below w.heap.size w (w.alloc (.cells #[.int .i64 1,.int .i64 n,.slice ov lv cv,.slice ot lt ct] 27)):=Below.one w _
 have HB:=zh hb
 have HR:=zh hr
 have c1:=hc.cell 1 rfl
 have c2:=hc.cell 2 rfl
 have c3:=hc.cell 3 rfl
 have cl:=hc.lt
 have HM:=zh hm
 have HN:=zh hn
 clear hb hr hc hm hn
 obtain rfl:sc n=r:=by rw[←HR.out];simp[Trm.numberB]
 go_enter func59,ntmps59
 go_wp2_with (at_lookup;refine zbv rfl _ _ rfl sb m sc rfl (HM.out.keep HB.out) n rfl HN.out ?_)
 go_wp2_with fail
 go_ret
 exact ⟨rfl,HB.out⟩
theorem zim (cb sb bb m:Nat) (nc nk size n:Int) (fr:Bool) (sc:Int→Bool) (ov ot:Option Addr) (lv cv lt ct:Nat) (w:World) (hn:I64 n) (hc:BoxL w cb 70 [.int .i64 3,.int .i64 nc,.int .i64 nk,.bool fr,.int .i64 size,.map (some bb)]) (hm:MapVB w sb m sc) (r:Bool) (hr:Trm.numberB nc nk fr sc 10 n=r) :
  Calls prog 59 #[.pointer (some ⟨cb,0,none⟩),.agg #[.int .i64 10,.int .i64 n,.slice ov lv cv,.slice ot lt ct],.map (some sb)] w fun e w'=>e=.returned (.bool r)∧Below w.heap.size w w':=by
 have hb:Below w.heap.size w (w.alloc (.cells #[.int .i64 10,.int .i64 n,.slice ov lv cv,.slice ot lt ct] 27)):=Below.one w _
 have HB:=zh hb
 have HR:=zh hr
 have c1:=hc.cell 1 rfl
 have c2:=hc.cell 2 rfl
 have c3:=hc.cell 3 rfl
 have cl:=hc.lt
 have HM:=zh hm
 have HN:=zh hn
 clear hb hr hc hm hn
 obtain ⟨⟨f0,f1,f2,f3,f4⟩,hf⟩:∃f,Prims.facts n=f:=⟨_,rfl⟩
 obtain ⟨b,hb⟩:∃b,Prims.has n=b:=⟨_,rfl⟩
 have HC:=zh (fun W=>zcx n f0 f1 f2 f3 f4 b hf hb HN.out.1 HN.out.2 W)
 obtain rfl:b=r:=by rw[←HR.out,←hb,Prims.has,Bool.eq_iff_iff];simp[Trm.numberB];omega
 clear hf hb
 go_enter func59,ntmps59
 go_wp2_with fail
 refine (HC.out _).mono ?_
 rintro e w1 ⟨rfl,hb1⟩
 have HB1:=zh (Below.next HB.out hb1)
 clear hb1 HC
 go_wp2_with fail
 go_ret
 exact ⟨rfl,HB1.out.alloc (by have:=HB1.out.size;omega) _⟩
theorem zib (cb sb bb m:Nat) (nc nk size n:Int) (fr:Bool) (sc:Int→Bool) (ov ot:Option Addr) (lv cv lt ct:Nat) (w:World) (hn:I64 n) (hc:BoxL w cb 70 [.int .i64 3,.int .i64 nc,.int .i64 nk,.bool fr,.int .i64 size,.map (some bb)]) (hm:MapVB w sb m sc) (r:Bool) (hr:Trm.numberB nc nk fr sc 11 n=r) :
  Calls prog 59 #[.pointer (some ⟨cb,0,none⟩),.agg #[.int .i64 11,.int .i64 n,.slice ov lv cv,.slice ot lt ct],.map (some sb)] w fun e w'=>e=.returned (.bool r)∧Below w.heap.size w w':=by
 have hb:Below w.heap.size w (w.alloc (.cells #[.int .i64 11,.int .i64 n,.slice ov lv cv,.slice ot lt ct] 27)):=Below.one w _
 have HB:=zh hb
 have HR:=zh hr
 have c1:=hc.cell 1 rfl
 have c2:=hc.cell 2 rfl
 have c3:=hc.cell 3 rfl
 have cl:=hc.lt
 have HM:=zh hm
 have HN:=zh hn
 clear hb hr hc hm hn
 obtain ⟨⟨f0,f1,f2,f3,f4⟩,hf⟩:∃f,Prims.facts n=f:=⟨_,rfl⟩
 obtain ⟨b,hb⟩:∃b,Prims.has n=b:=⟨_,rfl⟩
 have HC:=zh (fun W=>zcx n f0 f1 f2 f3 f4 b hf hb HN.out.1 HN.out.2 W)
 obtain rfl:b=r:=by rw[←HR.out,←hb,Prims.has,Bool.eq_iff_iff];simp[Trm.numberB];omega
 clear hf hb
 go_enter func59,ntmps59
 go_wp2_with fail
 refine (HC.out _).mono ?_
 rintro e w1 ⟨rfl,hb1⟩
 have HB1:=zh (Below.next HB.out hb1)
 clear hb1 HC
 go_wp2_with fail
 go_ret
 exact ⟨rfl,HB1.out.alloc (by have:=HB1.out.size;omega) _⟩
theorem zg5 (cb sb bb m:Nat) (nc nk size n:Int) (fr:Bool) (sc:Int→Bool) (ov ot:Option Addr) (lv cv lt ct:Nat) (w:World) (hn:I64 n) (hc:BoxL w cb 70 [.int .i64 3,.int .i64 nc,.int .i64 nk,.bool fr,.int .i64 size,.map (some bb)]) (hm:MapVB w sb m sc) (r:Bool) (hr:Trm.numberB nc nk fr sc 19 n=r) :
  Calls prog 59 #[.pointer (some ⟨cb,0,none⟩),.agg #[.int .i64 19,.int .i64 n,.slice ov lv cv,.slice ot lt ct],.map (some sb)] w fun e w'=>e=.returned (.bool r)∧Below w.heap.size w w':=by
 have hb:Below w.heap.size w (w.alloc (.cells #[.int .i64 19,.int .i64 n,.slice ov lv cv,.slice ot lt ct] 27)):=Below.one w _
 have HB:=zh hb
 have HR:=zh hr
 have c1:=hc.cell 1 rfl
 have c2:=hc.cell 2 rfl
 have c3:=hc.cell 3 rfl
 have cl:=hc.lt
 have HM:=zh hm
 have HN:=zh hn
 clear hb hr hc hm hn
 by_cases h0:0≤n
 ·by_cases h1:n<nk
  ·obtain rfl:true=r:=by rw[←HR.out];simp[Trm.numberB,h0,h1]
   go_enter func59,ntmps59
   go_upto_region 19 with fail
   go_region
   all_goals (go_wp2_with fail;go_ret;first | exact ⟨rfl,HB.out⟩ | exact ⟨rfl,Below.drewN HB.out 1⟩ | exact ⟨rfl,Below.drewN HB.out _⟩)
  ·obtain rfl:false=r:=by rw[←HR.out];simp[Trm.numberB,h1]
   have f1:decide (n<nk)=false:=decide_eq_false h1
   clear h1
   go_enter func59,ntmps59
   go_upto_region 19 with fail
   go_region
   all_goals (go_wp2_with fail;go_ret;first | exact ⟨rfl,HB.out⟩ | exact ⟨rfl,Below.drewN HB.out 1⟩ | exact ⟨rfl,Below.drewN HB.out _⟩)
 ·obtain rfl:false=r:=by rw[←HR.out];simp[Trm.numberB,h0]
  have f0:decide (0≤n)=false:=decide_eq_false h0
  clear h0
  go_enter func59,ntmps59
  go_upto_region 19 with fail
  go_region
  all_goals (go_wp2_with fail;go_ret;first | exact ⟨rfl,HB.out⟩ | exact ⟨rfl,Below.drewN HB.out 1⟩ | exact ⟨rfl,Below.drewN HB.out _⟩)
theorem zgV (cb sb bb m:Nat) (nc nk size n:Int) (fr:Bool) (sc:Int→Bool) (ov ot:Option Addr) (lv cv lt ct:Nat) (w:World) (hn:I64 n) (hc:BoxL w cb 70 [.int .i64 3,.int .i64 nc,.int .i64 nk,.bool fr,.int .i64 size,.map (some bb)]) (hm:MapVB w sb m sc) (r:Bool) (hr:Trm.numberB nc nk fr sc 21 n=r) :
  Calls prog 59 #[.pointer (some ⟨cb,0,none⟩),.agg #[.int .i64 21,.int .i64 n,.slice ov lv cv,.slice ot lt ct],.map (some sb)] w fun e w'=>e=.returned (.bool r)∧Below w.heap.size w w':=by
 have hb:Below w.heap.size w (w.alloc (.cells #[.int .i64 21,.int .i64 n,.slice ov lv cv,.slice ot lt ct] 27)):=Below.one w _
 have HB:=zh hb
 have HR:=zh hr
 have c1:=hc.cell 1 rfl
 have c2:=hc.cell 2 rfl
 have c3:=hc.cell 3 rfl
 have cl:=hc.lt
 have HM:=zh hm
 have HN:=zh hn
 clear hb hr hc hm hn
 by_cases h0:0≤n
 ·by_cases h1:n<nk
  ·obtain rfl:true=r:=by rw[←HR.out];simp[Trm.numberB,h0,h1]
   go_enter func59,ntmps59
   go_upto_region 19 with fail
   go_region
   all_goals (go_wp2_with fail;go_ret;first | exact ⟨rfl,HB.out⟩ | exact ⟨rfl,Below.drewN HB.out 1⟩ | exact ⟨rfl,Below.drewN HB.out _⟩)
  ·obtain rfl:false=r:=by rw[←HR.out];simp[Trm.numberB,h1]
   have f1:decide (n<nk)=false:=decide_eq_false h1
   clear h1
   go_enter func59,ntmps59
   go_upto_region 19 with fail
   go_region
   all_goals (go_wp2_with fail;go_ret;first | exact ⟨rfl,HB.out⟩ | exact ⟨rfl,Below.drewN HB.out 1⟩ | exact ⟨rfl,Below.drewN HB.out _⟩)
 ·obtain rfl:false=r:=by rw[←HR.out];simp[Trm.numberB,h0]
  have f0:decide (0≤n)=false:=decide_eq_false h0
  clear h0
  go_enter func59,ntmps59
  go_upto_region 19 with fail
  go_region
  all_goals (go_wp2_with fail;go_ret;first | exact ⟨rfl,HB.out⟩ | exact ⟨rfl,Below.drewN HB.out 1⟩ | exact ⟨rfl,Below.drewN HB.out _⟩)
theorem zhX (cb sb bb m:Nat) (nc nk size n:Int) (fr:Bool) (sc:Int→Bool) (ov ot:Option Addr) (lv cv lt ct:Nat) (w:World) (hn:I64 n) (hc:BoxL w cb 70 [.int .i64 3,.int .i64 nc,.int .i64 nk,.bool fr,.int .i64 size,.map (some bb)]) (hm:MapVB w sb m sc) (r:Bool) (hr:Trm.numberB nc nk fr sc 22 n=r) :
  Calls prog 59 #[.pointer (some ⟨cb,0,none⟩),.agg #[.int .i64 22,.int .i64 n,.slice ov lv cv,.slice ot lt ct],.map (some sb)] w fun e w'=>e=.returned (.bool r)∧Below w.heap.size w w':=by
 have hb:Below w.heap.size w (w.alloc (.cells #[.int .i64 22,.int .i64 n,.slice ov lv cv,.slice ot lt ct] 27)):=Below.one w _
 have HB:=zh hb
 have HR:=zh hr
 have c1:=hc.cell 1 rfl
 have c2:=hc.cell 2 rfl
 have c3:=hc.cell 3 rfl
 have cl:=hc.lt
 have HM:=zh hm
 have HN:=zh hn
 clear hb hr hc hm hn
 by_cases h0:0≤n
 ·by_cases h1:n<nk
  ·obtain rfl:true=r:=by rw[←HR.out];simp[Trm.numberB,h0,h1]
   go_enter func59,ntmps59
   go_upto_region 19 with fail
   go_region
   all_goals (go_wp2_with fail;go_ret;first | exact ⟨rfl,HB.out⟩ | exact ⟨rfl,Below.drewN HB.out 1⟩ | exact ⟨rfl,Below.drewN HB.out _⟩)
  ·obtain rfl:false=r:=by rw[←HR.out];simp[Trm.numberB,h1]
   have f1:decide (n<nk)=false:=decide_eq_false h1
   clear h1
   go_enter func59,ntmps59
   go_upto_region 19 with fail
   go_region
   all_goals (go_wp2_with fail;go_ret;first | exact ⟨rfl,HB.out⟩ | exact ⟨rfl,Below.drewN HB.out 1⟩ | exact ⟨rfl,Below.drewN HB.out _⟩)
 ·obtain rfl:false=r:=by rw[←HR.out];simp[Trm.numberB,h0]
  have f0:decide (0≤n)=false:=decide_eq_false h0
  clear h0
  go_enter func59,ntmps59
  go_upto_region 19 with fail
  go_region
  all_goals (go_wp2_with fail;go_ret;first | exact ⟨rfl,HB.out⟩ | exact ⟨rfl,Below.drewN HB.out 1⟩ | exact ⟨rfl,Below.drewN HB.out _⟩)
theorem zhu (cb sb bb m:Nat) (nc nk size n:Int) (fr:Bool) (sc:Int→Bool) (ov ot:Option Addr) (lv cv lt ct:Nat) (w:World) (hn:I64 n) (hc:BoxL w cb 70 [.int .i64 3,.int .i64 nc,.int .i64 nk,.bool fr,.int .i64 size,.map (some bb)]) (hm:MapVB w sb m sc) (r:Bool) (hr:Trm.numberB nc nk fr sc 20 n=r) :
  Calls prog 59 #[.pointer (some ⟨cb,0,none⟩),.agg #[.int .i64 20,.int .i64 n,.slice ov lv cv,.slice ot lt ct],.map (some sb)] w fun e w'=>e=.returned (.bool r)∧Below w.heap.size w w':=by
 have hb:Below w.heap.size w (w.alloc (.cells #[.int .i64 20,.int .i64 n,.slice ov lv cv,.slice ot lt ct] 27)):=Below.one w _
 have HB:=zh hb
 have HR:=zh hr
 have c1:=hc.cell 1 rfl
 have c2:=hc.cell 2 rfl
 have c3:=hc.cell 3 rfl
 have cl:=hc.lt
 have HM:=zh hm
 have HN:=zh hn
 clear hb hr hc hm hn
 by_cases h0:0≤n
 ·obtain rfl:fr=r:=by rw[←HR.out];simp[Trm.numberB,h0]
  go_enter func59,ntmps59
  go_wp2_with fail
  go_ret
  exact ⟨rfl,HB.out⟩
 ·obtain rfl:false=r:=by rw[←HR.out];simp[Trm.numberB,h0]
  have f0:decide (0≤n)=false:=decide_eq_false h0
  clear h0
  go_enter func59,ntmps59
  go_wp2_with fail
  go_ret
  exact ⟨rfl,HB.out⟩
theorem zjL (cb sb bb m:Nat) (nc nk size n:Int) (fr:Bool) (sc:Int→Bool) (ov ot:Option Addr) (lv cv lt ct:Nat) (w:World) (hn:I64 n) (hc:BoxL w cb 70 [.int .i64 3,.int .i64 nc,.int .i64 nk,.bool fr,.int .i64 size,.map (some bb)]) (hm:MapVB w sb m sc) (r:Bool) (hr:Trm.numberB nc nk fr sc 3 n=r) :
  Calls prog 59 #[.pointer (some ⟨cb,0,none⟩),.agg #[.int .i64 3,.int .i64 n,.slice ov lv cv,.slice ot lt ct],.map (some sb)] w fun e w'=>e=.returned (.bool r)∧Below w.heap.size w w':=by
 have hb:Below w.heap.size w (w.alloc (.cells #[.int .i64 3,.int .i64 n,.slice ov lv cv,.slice ot lt ct] 27)):=Below.one w _
 have HB:=zh hb
 have HR:=zh hr
 have c1:=hc.cell 1 rfl
 have c2:=hc.cell 2 rfl
 have c3:=hc.cell 3 rfl
 have cl:=hc.lt
 have HM:=zh hm
 have HN:=zh hn
 clear hb hr hc hm hn
 by_cases h0:n=0
 ·subst h0
  obtain rfl:true=r:=by rw[←HR.out];simp[Trm.numberB]
  go_enter func59,ntmps59
  go_wp2_with fail
  go_ret
  exact ⟨rfl,HB.out⟩
 ·obtain rfl:false=r:=by rw[←HR.out];simp[Trm.numberB,h0]
  have f0:(n==0)=false:=by simpa using h0
  clear h0
  go_enter func59,ntmps59
  go_wp2_with fail
  go_ret
  exact ⟨rfl,HB.out⟩
theorem zi5 (cb sb bb m:Nat) (nc nk size n:Int) (fr:Bool) (sc:Int→Bool) (ov ot:Option Addr) (lv cv lt ct:Nat) (w:World) (hn:I64 n) (hc:BoxL w cb 70 [.int .i64 3,.int .i64 nc,.int .i64 nk,.bool fr,.int .i64 size,.map (some bb)]) (hm:MapVB w sb m sc) (r:Bool) (hr:Trm.numberB nc nk fr sc 5 n=r) :
  Calls prog 59 #[.pointer (some ⟨cb,0,none⟩),.agg #[.int .i64 5,.int .i64 n,.slice ov lv cv,.slice ot lt ct],.map (some sb)] w fun e w'=>e=.returned (.bool r)∧Below w.heap.size w w':=by
 have hb:Below w.heap.size w (w.alloc (.cells #[.int .i64 5,.int .i64 n,.slice ov lv cv,.slice ot lt ct] 27)):=Below.one w _
 have HB:=zh hb
 have HR:=zh hr
 have c1:=hc.cell 1 rfl
 have c2:=hc.cell 2 rfl
 have c3:=hc.cell 3 rfl
 have cl:=hc.lt
 have HM:=zh hm
 have HN:=zh hn
 clear hb hr hc hm hn
 by_cases h0:n=0
 ·subst h0
  obtain rfl:true=r:=by rw[←HR.out];simp[Trm.numberB]
  go_enter func59,ntmps59
  go_wp2_with fail
  go_ret
  exact ⟨rfl,HB.out⟩
 ·obtain rfl:false=r:=by rw[←HR.out];simp[Trm.numberB,h0]
  have f0:(n==0)=false:=by simpa using h0
  clear h0
  go_enter func59,ntmps59
  go_wp2_with fail
  go_ret
  exact ⟨rfl,HB.out⟩
theorem zj0 (cb sb bb m:Nat) (nc nk size n:Int) (fr:Bool) (sc:Int→Bool) (ov ot:Option Addr) (lv cv lt ct:Nat) (w:World) (hn:I64 n) (hc:BoxL w cb 70 [.int .i64 3,.int .i64 nc,.int .i64 nk,.bool fr,.int .i64 size,.map (some bb)]) (hm:MapVB w sb m sc) (r:Bool) (hr:Trm.numberB nc nk fr sc 6 n=r) :
  Calls prog 59 #[.pointer (some ⟨cb,0,none⟩),.agg #[.int .i64 6,.int .i64 n,.slice ov lv cv,.slice ot lt ct],.map (some sb)] w fun e w'=>e=.returned (.bool r)∧Below w.heap.size w w':=by
 have hb:Below w.heap.size w (w.alloc (.cells #[.int .i64 6,.int .i64 n,.slice ov lv cv,.slice ot lt ct] 27)):=Below.one w _
 have HB:=zh hb
 have HR:=zh hr
 have c1:=hc.cell 1 rfl
 have c2:=hc.cell 2 rfl
 have c3:=hc.cell 3 rfl
 have cl:=hc.lt
 have HM:=zh hm
 have HN:=zh hn
 clear hb hr hc hm hn
 by_cases h0:n=0
 ·subst h0
  obtain rfl:true=r:=by rw[←HR.out];simp[Trm.numberB]
  go_enter func59,ntmps59
  go_wp2_with fail
  go_ret
  exact ⟨rfl,HB.out⟩
 ·obtain rfl:false=r:=by rw[←HR.out];simp[Trm.numberB,h0]
  have f0:(n==0)=false:=by simpa using h0
  clear h0
  go_enter func59,ntmps59
  go_wp2_with fail
  go_ret
  exact ⟨rfl,HB.out⟩
theorem zkk (cb sb bb m:Nat) (nc nk size n:Int) (fr:Bool) (sc:Int→Bool) (ov ot:Option Addr) (lv cv lt ct:Nat) (w:World) (hn:I64 n) (hc:BoxL w cb 70 [.int .i64 3,.int .i64 nc,.int .i64 nk,.bool fr,.int .i64 size,.map (some bb)]) (hm:MapVB w sb m sc) (r:Bool) (hr:Trm.numberB nc nk fr sc 8 n=r) :
  Calls prog 59 #[.pointer (some ⟨cb,0,none⟩),.agg #[.int .i64 8,.int .i64 n,.slice ov lv cv,.slice ot lt ct],.map (some sb)] w fun e w'=>e=.returned (.bool r)∧Below w.heap.size w w':=by
 have hb:Below w.heap.size w (w.alloc (.cells #[.int .i64 8,.int .i64 n,.slice ov lv cv,.slice ot lt ct] 27)):=Below.one w _
 have HB:=zh hb
 have HR:=zh hr
 have c1:=hc.cell 1 rfl
 have c2:=hc.cell 2 rfl
 have c3:=hc.cell 3 rfl
 have cl:=hc.lt
 have HM:=zh hm
 have HN:=zh hn
 clear hb hr hc hm hn
 by_cases h0:n=0
 ·subst h0
  obtain rfl:true=r:=by rw[←HR.out];simp[Trm.numberB]
  go_enter func59,ntmps59
  go_wp2_with fail
  go_ret
  exact ⟨rfl,HB.out⟩
 ·obtain rfl:false=r:=by rw[←HR.out];simp[Trm.numberB,h0]
  have f0:(n==0)=false:=by simpa using h0
  clear h0
  go_enter func59,ntmps59
  go_wp2_with fail
  go_ret
  exact ⟨rfl,HB.out⟩
theorem zjU (cb sb bb m:Nat) (nc nk size n:Int) (fr:Bool) (sc:Int→Bool) (ov ot:Option Addr) (lv cv lt ct:Nat) (w:World) (hn:I64 n) (hc:BoxL w cb 70 [.int .i64 3,.int .i64 nc,.int .i64 nk,.bool fr,.int .i64 size,.map (some bb)]) (hm:MapVB w sb m sc) (r:Bool) (hr:Trm.numberB nc nk fr sc 9 n=r) :
  Calls prog 59 #[.pointer (some ⟨cb,0,none⟩),.agg #[.int .i64 9,.int .i64 n,.slice ov lv cv,.slice ot lt ct],.map (some sb)] w fun e w'=>e=.returned (.bool r)∧Below w.heap.size w w':=by
 have hb:Below w.heap.size w (w.alloc (.cells #[.int .i64 9,.int .i64 n,.slice ov lv cv,.slice ot lt ct] 27)):=Below.one w _
 have HB:=zh hb
 have HR:=zh hr
 have c1:=hc.cell 1 rfl
 have c2:=hc.cell 2 rfl
 have c3:=hc.cell 3 rfl
 have cl:=hc.lt
 have HM:=zh hm
 have HN:=zh hn
 clear hb hr hc hm hn
 by_cases h0:n=0
 ·subst h0
  obtain rfl:true=r:=by rw[←HR.out];simp[Trm.numberB]
  go_enter func59,ntmps59
  go_wp2_with fail
  go_ret
  exact ⟨rfl,HB.out⟩
 ·obtain rfl:false=r:=by rw[←HR.out];simp[Trm.numberB,h0]
  have f0:(n==0)=false:=by simpa using h0
  clear h0
  go_enter func59,ntmps59
  go_wp2_with fail
  go_ret
  exact ⟨rfl,HB.out⟩
theorem zgT (cb sb bb m:Nat) (nc nk size n:Int) (fr:Bool) (sc:Int→Bool) (ov ot:Option Addr) (lv cv lt ct:Nat) (w:World) (hn:I64 n) (hc:BoxL w cb 70 [.int .i64 3,.int .i64 nc,.int .i64 nk,.bool fr,.int .i64 size,.map (some bb)]) (hm:MapVB w sb m sc) (r:Bool) (hr:Trm.numberB nc nk fr sc 12 n=r) :
  Calls prog 59 #[.pointer (some ⟨cb,0,none⟩),.agg #[.int .i64 12,.int .i64 n,.slice ov lv cv,.slice ot lt ct],.map (some sb)] w fun e w'=>e=.returned (.bool r)∧Below w.heap.size w w':=by
 have hb:Below w.heap.size w (w.alloc (.cells #[.int .i64 12,.int .i64 n,.slice ov lv cv,.slice ot lt ct] 27)):=Below.one w _
 have HB:=zh hb
 have HR:=zh hr
 have c1:=hc.cell 1 rfl
 have c2:=hc.cell 2 rfl
 have c3:=hc.cell 3 rfl
 have cl:=hc.lt
 have HM:=zh hm
 have HN:=zh hn
 clear hb hr hc hm hn
 by_cases h0:n=0
 ·subst h0
  obtain rfl:true=r:=by rw[←HR.out];simp[Trm.numberB]
  go_enter func59,ntmps59
  go_wp2_with fail
  go_ret
  exact ⟨rfl,HB.out⟩
 ·obtain rfl:false=r:=by rw[←HR.out];simp[Trm.numberB,h0]
  have f0:(n==0)=false:=by simpa using h0
  clear h0
  go_enter func59,ntmps59
  go_wp2_with fail
  go_ret
  exact ⟨rfl,HB.out⟩
theorem zhH (cb sb bb m:Nat) (nc nk size n:Int) (fr:Bool) (sc:Int→Bool) (ov ot:Option Addr) (lv cv lt ct:Nat) (w:World) (hn:I64 n) (hc:BoxL w cb 70 [.int .i64 3,.int .i64 nc,.int .i64 nk,.bool fr,.int .i64 size,.map (some bb)]) (hm:MapVB w sb m sc) (r:Bool) (hr:Trm.numberB nc nk fr sc 13 n=r) :
  Calls prog 59 #[.pointer (some ⟨cb,0,none⟩),.agg #[.int .i64 13,.int .i64 n,.slice ov lv cv,.slice ot lt ct],.map (some sb)] w fun e w'=>e=.returned (.bool r)∧Below w.heap.size w w':=by
 have hb:Below w.heap.size w (w.alloc (.cells #[.int .i64 13,.int .i64 n,.slice ov lv cv,.slice ot lt ct] 27)):=Below.one w _
 have HB:=zh hb
 have HR:=zh hr
 have c1:=hc.cell 1 rfl
 have c2:=hc.cell 2 rfl
 have c3:=hc.cell 3 rfl
 have cl:=hc.lt
 have HM:=zh hm
 have HN:=zh hn
 clear hb hr hc hm hn
 by_cases h0:n=0
 ·subst h0
  obtain rfl:true=r:=by rw[←HR.out];simp[Trm.numberB]
  go_enter func59,ntmps59
  go_wp2_with fail
  go_ret
  exact ⟨rfl,HB.out⟩
 ·obtain rfl:false=r:=by rw[←HR.out];simp[Trm.numberB,h0]
  have f0:(n==0)=false:=by simpa using h0
  clear h0
  go_enter func59,ntmps59
  go_wp2_with fail
  go_ret
  exact ⟨rfl,HB.out⟩
theorem zhO (cb sb bb m:Nat) (nc nk size n:Int) (fr:Bool) (sc:Int→Bool) (ov ot:Option Addr) (lv cv lt ct:Nat) (w:World) (hn:I64 n) (hc:BoxL w cb 70 [.int .i64 3,.int .i64 nc,.int .i64 nk,.bool fr,.int .i64 size,.map (some bb)]) (hm:MapVB w sb m sc) (r:Bool) (hr:Trm.numberB nc nk fr sc 15 n=r) :
  Calls prog 59 #[.pointer (some ⟨cb,0,none⟩),.agg #[.int .i64 15,.int .i64 n,.slice ov lv cv,.slice ot lt ct],.map (some sb)] w fun e w'=>e=.returned (.bool r)∧Below w.heap.size w w':=by
 have hb:Below w.heap.size w (w.alloc (.cells #[.int .i64 15,.int .i64 n,.slice ov lv cv,.slice ot lt ct] 27)):=Below.one w _
 have HB:=zh hb
 have HR:=zh hr
 have c1:=hc.cell 1 rfl
 have c2:=hc.cell 2 rfl
 have c3:=hc.cell 3 rfl
 have cl:=hc.lt
 have HM:=zh hm
 have HN:=zh hn
 clear hb hr hc hm hn
 by_cases h0:n=0
 ·subst h0
  obtain rfl:true=r:=by rw[←HR.out];simp[Trm.numberB]
  go_enter func59,ntmps59
  go_wp2_with fail
  go_ret
  exact ⟨rfl,HB.out⟩
 ·obtain rfl:false=r:=by rw[←HR.out];simp[Trm.numberB,h0]
  have f0:(n==0)=false:=by simpa using h0
  clear h0
  go_enter func59,ntmps59
  go_wp2_with fail
  go_ret
  exact ⟨rfl,HB.out⟩
theorem zgW (cb sb bb m:Nat) (nc nk size n:Int) (fr:Bool) (sc:Int→Bool) (ov ot:Option Addr) (lv cv lt ct:Nat) (w:World) (hn:I64 n) (hc:BoxL w cb 70 [.int .i64 3,.int .i64 nc,.int .i64 nk,.bool fr,.int .i64 size,.map (some bb)]) (hm:MapVB w sb m sc) (r:Bool) (hr:Trm.numberB nc nk fr sc 16 n=r) :
  Calls prog 59 #[.pointer (some ⟨cb,0,none⟩),.agg #[.int .i64 16,.int .i64 n,.slice ov lv cv,.slice ot lt ct],.map (some sb)] w fun e w'=>e=.returned (.bool r)∧Below w.heap.size w w':=by
 have hb:Below w.heap.size w (w.alloc (.cells #[.int .i64 16,.int .i64 n,.slice ov lv cv,.slice ot lt ct] 27)):=Below.one w _
 have HB:=zh hb
 have HR:=zh hr
 have c1:=hc.cell 1 rfl
 have c2:=hc.cell 2 rfl
 have c3:=hc.cell 3 rfl
 have cl:=hc.lt
 have HM:=zh hm
 have HN:=zh hn
 clear hb hr hc hm hn
 by_cases h0:n=0
 ·subst h0
  obtain rfl:true=r:=by rw[←HR.out];simp[Trm.numberB]
  go_enter func59,ntmps59
  go_wp2_with fail
  go_ret
  exact ⟨rfl,HB.out⟩
 ·obtain rfl:false=r:=by rw[←HR.out];simp[Trm.numberB,h0]
  have f0:(n==0)=false:=by simpa using h0
  clear h0
  go_enter func59,ntmps59
  go_wp2_with fail
  go_ret
  exact ⟨rfl,HB.out⟩
theorem zhk (cb sb bb m:Nat) (nc nk size n:Int) (fr:Bool) (sc:Int→Bool) (ov ot:Option Addr) (lv cv lt ct:Nat) (w:World) (hn:I64 n) (hc:BoxL w cb 70 [.int .i64 3,.int .i64 nc,.int .i64 nk,.bool fr,.int .i64 size,.map (some bb)]) (hm:MapVB w sb m sc) (r:Bool) (hr:Trm.numberB nc nk fr sc 17 n=r) :
  Calls prog 59 #[.pointer (some ⟨cb,0,none⟩),.agg #[.int .i64 17,.int .i64 n,.slice ov lv cv,.slice ot lt ct],.map (some sb)] w fun e w'=>e=.returned (.bool r)∧Below w.heap.size w w':=by
 have hb:Below w.heap.size w (w.alloc (.cells #[.int .i64 17,.int .i64 n,.slice ov lv cv,.slice ot lt ct] 27)):=Below.one w _
 have HB:=zh hb
 have HR:=zh hr
 have c1:=hc.cell 1 rfl
 have c2:=hc.cell 2 rfl
 have c3:=hc.cell 3 rfl
 have cl:=hc.lt
 have HM:=zh hm
 have HN:=zh hn
 clear hb hr hc hm hn
 by_cases h0:n=0
 ·subst h0
  obtain rfl:true=r:=by rw[←HR.out];simp[Trm.numberB]
  go_enter func59,ntmps59
  go_wp2_with fail
  go_ret
  exact ⟨rfl,HB.out⟩
 ·obtain rfl:false=r:=by rw[←HR.out];simp[Trm.numberB,h0]
  have f0:(n==0)=false:=by simpa using h0
  clear h0
  go_enter func59,ntmps59
  go_wp2_with fail
  go_ret
  exact ⟨rfl,HB.out⟩
theorem zhj (cb sb bb m:Nat) (nc nk size n:Int) (fr:Bool) (sc:Int→Bool) (ov ot:Option Addr) (lv cv lt ct:Nat) (w:World) (hn:I64 n) (hc:BoxL w cb 70 [.int .i64 3,.int .i64 nc,.int .i64 nk,.bool fr,.int .i64 size,.map (some bb)]) (hm:MapVB w sb m sc) (r:Bool) (hr:Trm.numberB nc nk fr sc 18 n=r) :
  Calls prog 59 #[.pointer (some ⟨cb,0,none⟩),.agg #[.int .i64 18,.int .i64 n,.slice ov lv cv,.slice ot lt ct],.map (some sb)] w fun e w'=>e=.returned (.bool r)∧Below w.heap.size w w':=by
 have hb:Below w.heap.size w (w.alloc (.cells #[.int .i64 18,.int .i64 n,.slice ov lv cv,.slice ot lt ct] 27)):=Below.one w _
 have HB:=zh hb
 have HR:=zh hr
 have c1:=hc.cell 1 rfl
 have c2:=hc.cell 2 rfl
 have c3:=hc.cell 3 rfl
 have cl:=hc.lt
 have HM:=zh hm
 have HN:=zh hn
 clear hb hr hc hm hn
 by_cases h0:n=0
 ·subst h0
  obtain rfl:true=r:=by rw[←HR.out];simp[Trm.numberB]
  go_enter func59,ntmps59
  go_wp2_with fail
  go_ret
  exact ⟨rfl,HB.out⟩
 ·obtain rfl:false=r:=by rw[←HR.out];simp[Trm.numberB,h0]
  have f0:(n==0)=false:=by simpa using h0
  clear h0
  go_enter func59,ntmps59
  go_wp2_with fail
  go_ret
  exact ⟨rfl,HB.out⟩
end
end Go.Proofs.YtdcajmeeeoofgaaGreatDoor
