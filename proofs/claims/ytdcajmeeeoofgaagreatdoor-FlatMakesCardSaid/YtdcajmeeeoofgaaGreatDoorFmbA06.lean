/- .. -/
import Derived.Deep.LoopGhost
import Derived.Laws.EntriesVeiled
import Derived.Deep.Cut
import Derived.Deep.CutRange
import Derived.Deep.OwnRows
import Derived.Maps.OwnSet
import Derived.WideKeyEntry
import Derived.Test.YtdcajmeeeoofgaaGreatDoorFmbA05
open Go.Proofs.Tryz
set_option maxRecDepth 100000
set_option maxHeartbeats 16000000
namespace Go.Proofs.YtdcajmeeeoofgaaGreatDoor
section
open Go.RowKit
theorem zmj:FitsC 0:=by
 intro d a b l o len cap args regs rest oc oa ok op lc cc la ca lk ck lp cp B w _ha hv hB r hr
 have e:Unt.fits ⟨0,d,a,b,l⟩ regs lc lp lk=(Unt.regB true d regs&&(Unt.regB false b regs&&(decide (l.length≤0)&&(l.all (Unt.below · regs)&&(Unt.below a lk))))):=by
  rw[Unt.fits,show Unt.isOp 0=true by decide,show Unt.pD 0=true by decide,show Unt.pN 0=true by decide,show Unt.pM 0=false by decide,show Unt.pB 0=false by decide,show Unt.pL 0=false by decide,show Unt.tailOk ⟨0,d,a,b,l⟩ lc lp lk=Unt.below a lk by simp[Unt.tailOk]]
  simp only[Bool.true_and,Bool.true_or,Bool.false_or]
 rw[e] at hr
 clear e
 obtain ⟨rD,hrD⟩:∃rD,(Unt.regB true d regs)=rD:=⟨_,rfl⟩
 obtain ⟨rB,hrB⟩:∃rB,(Unt.regB false b regs)=rB:=⟨_,rfl⟩
 obtain ⟨rL,hrL⟩:∃rL,(decide (l.length≤0))=rL:=⟨_,rfl⟩
 obtain ⟨rI,hrI⟩:∃rI,(l.all (Unt.below · regs))=rI:=⟨_,rfl⟩
 obtain ⟨rT,hrT⟩:∃rT,(Unt.below a lk)=rT:=⟨_,rfl⟩
 rw[hrD,hrB,hrL,hrI,hrT] at hr
 have HrD:=zh hrD
 have HrB:=zh hrB
 have HrL:=zh hrL
 have HrI:=zh hrI
 have HrT:=zh hrT
 have HR:=zh hr
 have HV:=zh hv
 obtain ⟨hlen,hcap,hmax⟩:=hv.lens
 have HL:=zh hlen
 clear hr hv hlen hrD hrB hrL hrI hrT
 go_enter func27,ntmps27
 go_wp2_with fail
 refine (zk7 _).mono ?_
 rintro e' w1 ⟨rfl,hb1⟩
 obtain ⟨bx,bp,bu,hb⟩:=zaf hb1
 have HB:=zh hb
 have hs1:=bu.lt
 have z0:w.heap.size<w1.heap.size:=by omega
 have z1:w.heap.size+1<w1.heap.size:=by omega
 obtain ⟨x0,x1,x2,x3,x4,p0,p1,p2,p3,u0,u1⟩:=zau bx bp bu
 have HBP:=zh bp
 have HKE:=zh (Below.one w1 (.cells #[.bool true,.bool false,.bool false,.bool false,.bool true,.bool false] 97))
 have hp2:∀X,(w1.alloc X).cell? ⟨w.heap.size+1,2,none⟩=some (.int .i64 regs):=fun X=>keepC (Below.one w1 X) p2
 have HP2:=zh hp2
 clear hb1 bx bp bu hb hp2
 go_wp2_with fail
 refine (zaj true d regs rD HrD.out (w.heap.size+1) _ (HP2.out _)).mono ?_
 rintro e' w' ⟨rfl,rfl⟩
 cases rD with
 | false=>
  obtain rfl:false=r:=HR.out
  go_wp2_with fail
  go_ret
  exact ⟨rfl,HB.out.alloc (by omega) _⟩
 | true=>
  go_wp2_with fail
  refine (zaj false b regs rB HrB.out (w.heap.size+1) _ (HP2.out _)).mono ?_
  rintro e' w' ⟨rfl,rfl⟩
  cases rB with
  | false=>
   obtain rfl:false=r:=HR.out
   go_wp2_with fail
   go_ret
   exact ⟨rfl,HB.out.alloc (by omega) _⟩
  | true=>
   cases rL with
   | false=>
    have hpos:0<len:=by have h1:=of_decide_eq_false HrL.out;have h2:=HL.out;omega
    obtain rfl:false=r:=HR.out
    go_wp2_with fail
    go_ret
    exact ⟨rfl,HB.out.alloc (by omega) _⟩
   | true=>
    have hzero:len=0:=by have h1:=of_decide_eq_true HrL.out;have h2:=HL.out;omega
    have hz2:¬0<len:=by omega
    clear hzero
    have HC:=zh (fun X=>zax hB z0 HV.out HB.out HP2.out HrI.out X)
    go_wp2_with fail
    refine (HC.out _).mono ?_
    rintro e' w2 ⟨rfl,hb2⟩
    have HB2:=zh (Below.next (HB.out.alloc (by omega) _) hb2)
    have hs2:=hb2.size
    have y0:=keepC hb2 (keepC HKE.out x0)
    have y2:=keepC hb2 (keepC HKE.out x2)
    have v0:=keepC hb2 (keepC HKE.out u0)
    clear hb2 HC x0 x1 x2 x3 x4 p0 p1 p2 p3 u0 u1
    cases rI with
    | false=>
     obtain rfl:false=r:=HR.out
     go_wp2_with fail
     go_ret
     exact ⟨rfl,HB2.out⟩
    | true=>
     obtain rfl:rT=r:=HR.out
     go_wp2_with fail
     refine (za6 _ _ rT HrT.out _).mono ?_
     rintro e' w' ⟨rfl,rfl⟩
     go_wp2_with fail
     go_ret
     exact ⟨rfl,HB2.out⟩
theorem zmh:FitsC 1:=by
 intro d a b l o len cap args regs rest oc oa ok op lc cc la ca lk ck lp cp B w _ha hv hB r hr
 have e:Unt.fits ⟨1,d,a,b,l⟩ regs lc lp lk=(Unt.regB true d regs&&(Unt.regB true a regs&&(Unt.regB false b regs&&(decide (l.length≤0)&&(l.all (Unt.below · regs)))))):=by
  rw[Unt.fits,show Unt.isOp 1=true by decide,show Unt.pD 1=true by decide,show Unt.pN 1=false by decide,show Unt.pA 1=true by decide,show Unt.pM 1=false by decide,show Unt.pB 1=false by decide,show Unt.pL 1=false by decide,show Unt.tailOk ⟨1,d,a,b,l⟩ lc lp lk=true by simp[Unt.tailOk]]
  simp only[Bool.true_and,Bool.and_true,Bool.false_or]
 rw[e] at hr
 clear e
 obtain ⟨rD,hrD⟩:∃rD,(Unt.regB true d regs)=rD:=⟨_,rfl⟩
 obtain ⟨rA,hrA⟩:∃rA,(Unt.regB true a regs)=rA:=⟨_,rfl⟩
 obtain ⟨rB,hrB⟩:∃rB,(Unt.regB false b regs)=rB:=⟨_,rfl⟩
 obtain ⟨rL,hrL⟩:∃rL,(decide (l.length≤0))=rL:=⟨_,rfl⟩
 obtain ⟨rI,hrI⟩:∃rI,(l.all (Unt.below · regs))=rI:=⟨_,rfl⟩
 rw[hrD,hrA,hrB,hrL,hrI] at hr
 have HrD:=zh hrD
 have HrA:=zh hrA
 have HrB:=zh hrB
 have HrL:=zh hrL
 have HrI:=zh hrI
 have HR:=zh hr
 have HV:=zh hv
 obtain ⟨hlen,hcap,hmax⟩:=hv.lens
 have HL:=zh hlen
 clear hr hv hlen hrD hrA hrB hrL hrI
 go_enter func27,ntmps27
 go_wp2_with fail
 refine (zlx _).mono ?_
 rintro e' w1 ⟨rfl,hb1⟩
 obtain ⟨bx,bp,bu,hb⟩:=zaf hb1
 have HB:=zh hb
 have hs1:=bu.lt
 have z0:w.heap.size<w1.heap.size:=by omega
 have z1:w.heap.size+1<w1.heap.size:=by omega
 obtain ⟨x0,x1,x2,x3,x4,p0,p1,p2,p3,u0,u1⟩:=zau bx bp bu
 have HBP:=zh bp
 have HKE:=zh (Below.one w1 (.cells #[.bool true,.bool true,.bool false,.bool false,.bool false,.bool false] 97))
 have hp2:∀X,(w1.alloc X).cell? ⟨w.heap.size+1,2,none⟩=some (.int .i64 regs):=fun X=>keepC (Below.one w1 X) p2
 have HP2:=zh hp2
 clear hb1 bx bp bu hb hp2
 go_wp2_with fail
 refine (zaj true d regs rD HrD.out (w.heap.size+1) _ (HP2.out _)).mono ?_
 rintro e' w' ⟨rfl,rfl⟩
 cases rD with
 | false=>
  obtain rfl:false=r:=HR.out
  go_wp2_with fail
  go_ret
  exact ⟨rfl,HB.out.alloc (by omega) _⟩
 | true=>
  go_wp2_with fail
  refine (zaj true a regs rA HrA.out (w.heap.size+1) _ (HP2.out _)).mono ?_
  rintro e' w' ⟨rfl,rfl⟩
  cases rA with
  | false=>
   obtain rfl:false=r:=HR.out
   go_wp2_with fail
   go_ret
   exact ⟨rfl,HB.out.alloc (by omega) _⟩
  | true=>
   go_wp2_with fail
   refine (zaj false b regs rB HrB.out (w.heap.size+1) _ (HP2.out _)).mono ?_
   rintro e' w' ⟨rfl,rfl⟩
   cases rB with
   | false=>
    obtain rfl:false=r:=HR.out
    go_wp2_with fail
    go_ret
    exact ⟨rfl,HB.out.alloc (by omega) _⟩
   | true=>
    cases rL with
    | false=>
     have hpos:0<len:=by have h1:=of_decide_eq_false HrL.out;have h2:=HL.out;omega
     obtain rfl:false=r:=HR.out
     go_wp2_with fail
     go_ret
     exact ⟨rfl,HB.out.alloc (by omega) _⟩
    | true=>
     have hzero:len=0:=by have h1:=of_decide_eq_true HrL.out;have h2:=HL.out;omega
     have hz2:¬0<len:=by omega
     clear hzero
     have HC:=zh (fun X=>zax hB z0 HV.out HB.out HP2.out HrI.out X)
     go_wp2_with fail
     refine (HC.out _).mono ?_
     rintro e' w2 ⟨rfl,hb2⟩
     have HB2:=zh (Below.next (HB.out.alloc (by omega) _) hb2)
     have hs2:=hb2.size
     have y0:=keepC hb2 (keepC HKE.out x0)
     have y2:=keepC hb2 (keepC HKE.out x2)
     clear hb2 HC x0 x1 x2 x3 x4 p0 p1 p2 p3 u0 u1
     cases rI with
     | false=>
      obtain rfl:false=r:=HR.out
      go_wp2_with fail
      go_ret
      exact ⟨rfl,HB2.out⟩
     | true=>
      obtain rfl:true=r:=HR.out
      go_wp2_with fail
      go_ret
      exact ⟨rfl,HB2.out⟩
theorem zl7:FitsC 2:=by
 intro d a b l o len cap args regs rest oc oa ok op lc cc la ca lk ck lp cp B w ha hv hB r hr
 have e:Unt.fits ⟨2,d,a,b,l⟩ regs lc lp lk=(Unt.regB true d regs&&(Unt.regB false b regs&&(decide (l.length≤0)&&(l.all (Unt.below · regs)&&(Unt.below a 31))))):=by
  rw[Unt.fits,show Unt.isOp 2=true by decide,show Unt.pD 2=true by decide,show Unt.pN 2=true by decide,show Unt.pM 2=false by decide,show Unt.pB 2=false by decide,show Unt.pL 2=false by decide,show Unt.tailOk ⟨2,d,a,b,l⟩ lc lp lk=Unt.below a 31 by simp[Unt.tailOk]]
  simp only[Bool.true_and,Bool.true_or,Bool.false_or]
 rw[e] at hr
 clear e
 obtain ⟨rD,hrD⟩:∃rD,(Unt.regB true d regs)=rD:=⟨_,rfl⟩
 obtain ⟨rB,hrB⟩:∃rB,(Unt.regB false b regs)=rB:=⟨_,rfl⟩
 obtain ⟨rL,hrL⟩:∃rL,(decide (l.length≤0))=rL:=⟨_,rfl⟩
 obtain ⟨rI,hrI⟩:∃rI,(l.all (Unt.below · regs))=rI:=⟨_,rfl⟩
 obtain ⟨rT,hrT⟩:∃rT,(Unt.below a 31)=rT:=⟨_,rfl⟩
 rw[hrD,hrB,hrL,hrI,hrT] at hr
 have HrD:=zh hrD
 have HrB:=zh hrB
 have HrL:=zh hrL
 have HrI:=zh hrI
 have HrT:=zh hrT
 have HR:=zh hr
 have HV:=zh hv
 obtain ⟨hlen,hcap,hmax⟩:=hv.lens
 have HL:=zh hlen
 clear hr hv hlen hrD hrB hrL hrI hrT
 go_enter func27,ntmps27
 go_wp2_with fail
 refine (zlC _).mono ?_
 rintro e' w1 ⟨rfl,hb1⟩
 obtain ⟨bx,bp,bu,hb⟩:=zaf hb1
 have HB:=zh hb
 have hs1:=bu.lt
 have z0:w.heap.size<w1.heap.size:=by omega
 have z1:w.heap.size+1<w1.heap.size:=by omega
 obtain ⟨x0,x1,x2,x3,x4,p0,p1,p2,p3,u0,u1⟩:=zau bx bp bu
 have HBP:=zh bp
 have HKE:=zh (Below.one w1 (.cells #[.bool true,.bool false,.bool false,.bool false,.bool true,.bool false] 97))
 have hp2:∀X,(w1.alloc X).cell? ⟨w.heap.size+1,2,none⟩=some (.int .i64 regs):=fun X=>keepC (Below.one w1 X) p2
 have HP2:=zh hp2
 clear hb1 bx bp bu hb hp2
 go_wp2_with fail
 refine (zaj true d regs rD HrD.out (w.heap.size+1) _ (HP2.out _)).mono ?_
 rintro e' w' ⟨rfl,rfl⟩
 cases rD with
 | false=>
  obtain rfl:false=r:=HR.out
  go_wp2_with fail
  go_ret
  exact ⟨rfl,HB.out.alloc (by omega) _⟩
 | true=>
  go_wp2_with fail
  refine (zaj false b regs rB HrB.out (w.heap.size+1) _ (HP2.out _)).mono ?_
  rintro e' w' ⟨rfl,rfl⟩
  cases rB with
  | false=>
   obtain rfl:false=r:=HR.out
   go_wp2_with fail
   go_ret
   exact ⟨rfl,HB.out.alloc (by omega) _⟩
  | true=>
   cases rL with
   | false=>
    have hpos:0<len:=by have h1:=of_decide_eq_false HrL.out;have h2:=HL.out;omega
    obtain rfl:false=r:=HR.out
    go_wp2_with fail
    go_ret
    exact ⟨rfl,HB.out.alloc (by omega) _⟩
   | true=>
    have hzero:len=0:=by have h1:=of_decide_eq_true HrL.out;have h2:=HL.out;omega
    have hz2:¬0<len:=by omega
    clear hzero
    have HC:=zh (fun X=>zax hB z0 HV.out HB.out HP2.out HrI.out X)
    go_wp2_with fail
    refine (HC.out _).mono ?_
    rintro e' w2 ⟨rfl,hb2⟩
    have HB2:=zh (Below.next (HB.out.alloc (by omega) _) hb2)
    have hs2:=hb2.size
    have y0:=keepC hb2 (keepC HKE.out x0)
    have y2:=keepC hb2 (keepC HKE.out x2)
    clear hb2 HC x0 x1 x2 x3 x4 p0 p1 p2 p3 u0 u1
    cases rI with
    | false=>
     obtain rfl:false=r:=HR.out
     go_wp2_with fail
     go_ret
     exact ⟨rfl,HB2.out⟩
    | true=>
     obtain rfl:rT=r:=HR.out
     obtain ⟨⟨f0,f1,f2,f3,f4⟩,hf⟩:∃f,Prims.facts a=f:=⟨_,rfl⟩
     have HF:=zh hf
     have HH:=zh (show Prims.has a=rT from by rw[←HrT.out,Prims.has,Unt.below,Bool.decide_and,show decide (a≤30)=decide (a<31) from by rw[decide_eq_decide];omega])
     clear hf
     go_wp2_with fail
     refine (zcx a f0 f1 f2 f3 f4 rT HF.out HH.out ha.1 ha.2 _).mono ?_
     rintro e' w3 ⟨rfl,hb3⟩
     have HB3:=zh ((Below.next HB2.out hb3).alloc (by have:=hb3.size;simp at this hs2;omega) (.cells #[.string f0,.int .i64 f1,.int .i64 f2,.bool f3,.bool f4] 105))
     clear hb3
     go_wp2_with fail
     go_ret
     exact ⟨rfl,HB3.out⟩
theorem zl5:FitsC 3:=by
 intro d a b l o len cap args regs rest oc oa ok op lc cc la ca lk ck lp cp B w _ha hv hB r hr
 have e:Unt.fits ⟨3,d,a,b,l⟩ regs lc lp lk=(Unt.regB true d regs&&(Unt.regB false a regs&&(Unt.regB false b regs&&(decide (l.length≤0)&&(l.all (Unt.below · regs)))))):=by
  rw[Unt.fits,show Unt.isOp 3=true by decide,show Unt.pD 3=true by decide,show Unt.pN 3=false by decide,show Unt.pA 3=false by decide,show Unt.pM 3=false by decide,show Unt.pB 3=false by decide,show Unt.pL 3=false by decide,show Unt.tailOk ⟨3,d,a,b,l⟩ lc lp lk=true by simp[Unt.tailOk]]
  simp only[Bool.true_and,Bool.and_true,Bool.false_or]
 rw[e] at hr
 clear e
 obtain ⟨rD,hrD⟩:∃rD,(Unt.regB true d regs)=rD:=⟨_,rfl⟩
 obtain ⟨rA,hrA⟩:∃rA,(Unt.regB false a regs)=rA:=⟨_,rfl⟩
 obtain ⟨rB,hrB⟩:∃rB,(Unt.regB false b regs)=rB:=⟨_,rfl⟩
 obtain ⟨rL,hrL⟩:∃rL,(decide (l.length≤0))=rL:=⟨_,rfl⟩
 obtain ⟨rI,hrI⟩:∃rI,(l.all (Unt.below · regs))=rI:=⟨_,rfl⟩
 rw[hrD,hrA,hrB,hrL,hrI] at hr
 have HrD:=zh hrD
 have HrA:=zh hrA
 have HrB:=zh hrB
 have HrL:=zh hrL
 have HrI:=zh hrI
 have HR:=zh hr
 have HV:=zh hv
 obtain ⟨hlen,hcap,hmax⟩:=hv.lens
 have HL:=zh hlen
 clear hr hv hlen hrD hrA hrB hrL hrI
 go_enter func27,ntmps27
 go_wp2_with fail
 refine (zlu _).mono ?_
 rintro e' w1 ⟨rfl,hb1⟩
 obtain ⟨bx,bp,bu,hb⟩:=zaf hb1
 have HB:=zh hb
 have hs1:=bu.lt
 have z0:w.heap.size<w1.heap.size:=by omega
 have z1:w.heap.size+1<w1.heap.size:=by omega
 obtain ⟨x0,x1,x2,x3,x4,p0,p1,p2,p3,u0,u1⟩:=zau bx bp bu
 have HBP:=zh bp
 have HKE:=zh (Below.one w1 (.cells #[.bool true,.bool false,.bool false,.bool false,.bool false,.bool false] 97))
 have hp2:∀X,(w1.alloc X).cell? ⟨w.heap.size+1,2,none⟩=some (.int .i64 regs):=fun X=>keepC (Below.one w1 X) p2
 have HP2:=zh hp2
 clear hb1 bx bp bu hb hp2
 go_wp2_with fail
 refine (zaj true d regs rD HrD.out (w.heap.size+1) _ (HP2.out _)).mono ?_
 rintro e' w' ⟨rfl,rfl⟩
 cases rD with
 | false=>
  obtain rfl:false=r:=HR.out
  go_wp2_with fail
  go_ret
  exact ⟨rfl,HB.out.alloc (by omega) _⟩
 | true=>
  go_wp2_with fail
  refine (zaj false a regs rA HrA.out (w.heap.size+1) _ (HP2.out _)).mono ?_
  rintro e' w' ⟨rfl,rfl⟩
  cases rA with
  | false=>
   obtain rfl:false=r:=HR.out
   go_wp2_with fail
   go_ret
   exact ⟨rfl,HB.out.alloc (by omega) _⟩
  | true=>
   go_wp2_with fail
   refine (zaj false b regs rB HrB.out (w.heap.size+1) _ (HP2.out _)).mono ?_
   rintro e' w' ⟨rfl,rfl⟩
   cases rB with
   | false=>
    obtain rfl:false=r:=HR.out
    go_wp2_with fail
    go_ret
    exact ⟨rfl,HB.out.alloc (by omega) _⟩
   | true=>
    cases rL with
    | false=>
     have hpos:0<len:=by have h1:=of_decide_eq_false HrL.out;have h2:=HL.out;omega
     obtain rfl:false=r:=HR.out
     go_wp2_with fail
     go_ret
     exact ⟨rfl,HB.out.alloc (by omega) _⟩
    | true=>
     have hzero:len=0:=by have h1:=of_decide_eq_true HrL.out;have h2:=HL.out;omega
     have hz2:¬0<len:=by omega
     clear hzero
     have HC:=zh (fun X=>zax hB z0 HV.out HB.out HP2.out HrI.out X)
     go_wp2_with fail
     refine (HC.out _).mono ?_
     rintro e' w2 ⟨rfl,hb2⟩
     have HB2:=zh (Below.next (HB.out.alloc (by omega) _) hb2)
     have hs2:=hb2.size
     have y0:=keepC hb2 (keepC HKE.out x0)
     have y2:=keepC hb2 (keepC HKE.out x2)
     clear hb2 HC x0 x1 x2 x3 x4 p0 p1 p2 p3 u0 u1
     cases rI with
     | false=>
      obtain rfl:false=r:=HR.out
      go_wp2_with fail
      go_ret
      exact ⟨rfl,HB2.out⟩
     | true=>
      obtain rfl:true=r:=HR.out
      go_wp2_with fail
      go_ret
      exact ⟨rfl,HB2.out⟩
theorem zmc:FitsC 4:=by
 intro d a b l o len cap args regs rest oc oa ok op lc cc la ca lk ck lp cp B w _ha hv hB r hr
 have e:Unt.fits ⟨4,d,a,b,l⟩ regs lc lp lk=(Unt.regB true d regs&&(Unt.regB false a regs&&(Unt.regB false b regs&&(decide (l.length≤0)&&(l.all (Unt.below · regs)))))):=by
  rw[Unt.fits,show Unt.isOp 4=true by decide,show Unt.pD 4=true by decide,show Unt.pN 4=false by decide,show Unt.pA 4=false by decide,show Unt.pM 4=false by decide,show Unt.pB 4=false by decide,show Unt.pL 4=false by decide,show Unt.tailOk ⟨4,d,a,b,l⟩ lc lp lk=true by simp[Unt.tailOk]]
  simp only[Bool.true_and,Bool.and_true,Bool.false_or]
 rw[e] at hr
 clear e
 obtain ⟨rD,hrD⟩:∃rD,(Unt.regB true d regs)=rD:=⟨_,rfl⟩
 obtain ⟨rA,hrA⟩:∃rA,(Unt.regB false a regs)=rA:=⟨_,rfl⟩
 obtain ⟨rB,hrB⟩:∃rB,(Unt.regB false b regs)=rB:=⟨_,rfl⟩
 obtain ⟨rL,hrL⟩:∃rL,(decide (l.length≤0))=rL:=⟨_,rfl⟩
 obtain ⟨rI,hrI⟩:∃rI,(l.all (Unt.below · regs))=rI:=⟨_,rfl⟩
 rw[hrD,hrA,hrB,hrL,hrI] at hr
 have HrD:=zh hrD
 have HrA:=zh hrA
 have HrB:=zh hrB
 have HrL:=zh hrL
 have HrI:=zh hrI
 have HR:=zh hr
 have HV:=zh hv
 obtain ⟨hlen,hcap,hmax⟩:=hv.lens
 have HL:=zh hlen
 clear hr hv hlen hrD hrA hrB hrL hrI
 go_enter func27,ntmps27
 go_wp2_with fail
 refine (zlU _).mono ?_
 rintro e' w1 ⟨rfl,hb1⟩
 obtain ⟨bx,bp,bu,hb⟩:=zaf hb1
 have HB:=zh hb
 have hs1:=bu.lt
 have z0:w.heap.size<w1.heap.size:=by omega
 have z1:w.heap.size+1<w1.heap.size:=by omega
 obtain ⟨x0,x1,x2,x3,x4,p0,p1,p2,p3,u0,u1⟩:=zau bx bp bu
 have HBP:=zh bp
 have HKE:=zh (Below.one w1 (.cells #[.bool true,.bool false,.bool false,.bool false,.bool false,.bool false] 97))
 have hp2:∀X,(w1.alloc X).cell? ⟨w.heap.size+1,2,none⟩=some (.int .i64 regs):=fun X=>keepC (Below.one w1 X) p2
 have HP2:=zh hp2
 clear hb1 bx bp bu hb hp2
 go_wp2_with fail
 refine (zaj true d regs rD HrD.out (w.heap.size+1) _ (HP2.out _)).mono ?_
 rintro e' w' ⟨rfl,rfl⟩
 cases rD with
 | false=>
  obtain rfl:false=r:=HR.out
  go_wp2_with fail
  go_ret
  exact ⟨rfl,HB.out.alloc (by omega) _⟩
 | true=>
  go_wp2_with fail
  refine (zaj false a regs rA HrA.out (w.heap.size+1) _ (HP2.out _)).mono ?_
  rintro e' w' ⟨rfl,rfl⟩
  cases rA with
  | false=>
   obtain rfl:false=r:=HR.out
   go_wp2_with fail
   go_ret
   exact ⟨rfl,HB.out.alloc (by omega) _⟩
  | true=>
   go_wp2_with fail
   refine (zaj false b regs rB HrB.out (w.heap.size+1) _ (HP2.out _)).mono ?_
   rintro e' w' ⟨rfl,rfl⟩
   cases rB with
   | false=>
    obtain rfl:false=r:=HR.out
    go_wp2_with fail
    go_ret
    exact ⟨rfl,HB.out.alloc (by omega) _⟩
   | true=>
    cases rL with
    | false=>
     have hpos:0<len:=by have h1:=of_decide_eq_false HrL.out;have h2:=HL.out;omega
     obtain rfl:false=r:=HR.out
     go_wp2_with fail
     go_ret
     exact ⟨rfl,HB.out.alloc (by omega) _⟩
    | true=>
     have hzero:len=0:=by have h1:=of_decide_eq_true HrL.out;have h2:=HL.out;omega
     have hz2:¬0<len:=by omega
     clear hzero
     have HC:=zh (fun X=>zax hB z0 HV.out HB.out HP2.out HrI.out X)
     go_wp2_with fail
     refine (HC.out _).mono ?_
     rintro e' w2 ⟨rfl,hb2⟩
     have HB2:=zh (Below.next (HB.out.alloc (by omega) _) hb2)
     have hs2:=hb2.size
     have y0:=keepC hb2 (keepC HKE.out x0)
     have y2:=keepC hb2 (keepC HKE.out x2)
     clear hb2 HC x0 x1 x2 x3 x4 p0 p1 p2 p3 u0 u1
     cases rI with
     | false=>
      obtain rfl:false=r:=HR.out
      go_wp2_with fail
      go_ret
      exact ⟨rfl,HB2.out⟩
     | true=>
      obtain rfl:true=r:=HR.out
      go_wp2_with fail
      go_ret
      exact ⟨rfl,HB2.out⟩
theorem zmg:FitsC 5:=by
 intro d a b l o len cap args regs rest oc oa ok op lc cc la ca lk ck lp cp B w _ha hv hB r hr
 have e:Unt.fits ⟨5,d,a,b,l⟩ regs lc lp lk=(Unt.regB true d regs&&(Unt.regB false b regs&&(decide (l.length≤0)&&(l.all (Unt.below · regs)&&(Unt.below a lp))))):=by
  rw[Unt.fits,show Unt.isOp 5=true by decide,show Unt.pD 5=true by decide,show Unt.pN 5=true by decide,show Unt.pM 5=false by decide,show Unt.pB 5=false by decide,show Unt.pL 5=false by decide,show Unt.tailOk ⟨5,d,a,b,l⟩ lc lp lk=Unt.below a lp by simp[Unt.tailOk]]
  simp only[Bool.true_and,Bool.true_or,Bool.false_or]
 rw[e] at hr
 clear e
 obtain ⟨rD,hrD⟩:∃rD,(Unt.regB true d regs)=rD:=⟨_,rfl⟩
 obtain ⟨rB,hrB⟩:∃rB,(Unt.regB false b regs)=rB:=⟨_,rfl⟩
 obtain ⟨rL,hrL⟩:∃rL,(decide (l.length≤0))=rL:=⟨_,rfl⟩
 obtain ⟨rI,hrI⟩:∃rI,(l.all (Unt.below · regs))=rI:=⟨_,rfl⟩
 obtain ⟨rT,hrT⟩:∃rT,(Unt.below a lp)=rT:=⟨_,rfl⟩
 rw[hrD,hrB,hrL,hrI,hrT] at hr
 have HrD:=zh hrD
 have HrB:=zh hrB
 have HrL:=zh hrL
 have HrI:=zh hrI
 have HrT:=zh hrT
 have HR:=zh hr
 have HV:=zh hv
 obtain ⟨hlen,hcap,hmax⟩:=hv.lens
 have HL:=zh hlen
 clear hr hv hlen hrD hrB hrL hrI hrT
 go_enter func27,ntmps27
 go_wp2_with fail
 refine (zlS _).mono ?_
 rintro e' w1 ⟨rfl,hb1⟩
 obtain ⟨bx,bp,bu,hb⟩:=zaf hb1
 have HB:=zh hb
 have hs1:=bu.lt
 have z0:w.heap.size<w1.heap.size:=by omega
 have z1:w.heap.size+1<w1.heap.size:=by omega
 obtain ⟨x0,x1,x2,x3,x4,p0,p1,p2,p3,u0,u1⟩:=zau bx bp bu
 have HBP:=zh bp
 have HKE:=zh (Below.one w1 (.cells #[.bool true,.bool false,.bool false,.bool false,.bool true,.bool false] 97))
 have hp2:∀X,(w1.alloc X).cell? ⟨w.heap.size+1,2,none⟩=some (.int .i64 regs):=fun X=>keepC (Below.one w1 X) p2
 have HP2:=zh hp2
 clear hb1 bx bp bu hb hp2
 go_wp2_with fail
 refine (zaj true d regs rD HrD.out (w.heap.size+1) _ (HP2.out _)).mono ?_
 rintro e' w' ⟨rfl,rfl⟩
 cases rD with
 | false=>
  obtain rfl:false=r:=HR.out
  go_wp2_with fail
  go_ret
  exact ⟨rfl,HB.out.alloc (by omega) _⟩
 | true=>
  go_wp2_with fail
  refine (zaj false b regs rB HrB.out (w.heap.size+1) _ (HP2.out _)).mono ?_
  rintro e' w' ⟨rfl,rfl⟩
  cases rB with
  | false=>
   obtain rfl:false=r:=HR.out
   go_wp2_with fail
   go_ret
   exact ⟨rfl,HB.out.alloc (by omega) _⟩
  | true=>
   cases rL with
   | false=>
    have hpos:0<len:=by have h1:=of_decide_eq_false HrL.out;have h2:=HL.out;omega
    obtain rfl:false=r:=HR.out
    go_wp2_with fail
    go_ret
    exact ⟨rfl,HB.out.alloc (by omega) _⟩
   | true=>
    have hzero:len=0:=by have h1:=of_decide_eq_true HrL.out;have h2:=HL.out;omega
    have hz2:¬0<len:=by omega
    clear hzero
    have HC:=zh (fun X=>zax hB z0 HV.out HB.out HP2.out HrI.out X)
    go_wp2_with fail
    refine (HC.out _).mono ?_
    rintro e' w2 ⟨rfl,hb2⟩
    have HB2:=zh (Below.next (HB.out.alloc (by omega) _) hb2)
    have hs2:=hb2.size
    have y0:=keepC hb2 (keepC HKE.out x0)
    have y2:=keepC hb2 (keepC HKE.out x2)
    have v1:=keepC hb2 (keepC HKE.out u1)
    clear hb2 HC x0 x1 x2 x3 x4 p0 p1 p2 p3 u0 u1
    cases rI with
    | false=>
     obtain rfl:false=r:=HR.out
     go_wp2_with fail
     go_ret
     exact ⟨rfl,HB2.out⟩
    | true=>
     obtain rfl:rT=r:=HR.out
     go_wp2_with fail
     refine (za6 _ _ rT HrT.out _).mono ?_
     rintro e' w' ⟨rfl,rfl⟩
     go_wp2_with fail
     go_ret
     exact ⟨rfl,HB2.out⟩
theorem zl6:FitsC 6:=by
 intro d a b l o len cap args regs rest oc oa ok op lc cc la ca lk ck lp cp B w _ha hv hB r hr
 have e:Unt.fits ⟨6,d,a,b,l⟩ regs lc lp lk=(Unt.regB true d regs&&(Unt.regB false b regs&&(decide (l.length≤0)&&(l.all (Unt.below · regs)&&(decide (0≤a)))))):=by
  rw[Unt.fits,show Unt.isOp 6=true by decide,show Unt.pD 6=true by decide,show Unt.pN 6=true by decide,show Unt.pM 6=false by decide,show Unt.pB 6=false by decide,show Unt.pL 6=false by decide,show Unt.tailOk ⟨6,d,a,b,l⟩ lc lp lk=decide (0≤a) by simp[Unt.tailOk]]
  simp only[Bool.true_and,Bool.true_or,Bool.false_or]
 rw[e] at hr
 clear e
 obtain ⟨rD,hrD⟩:∃rD,(Unt.regB true d regs)=rD:=⟨_,rfl⟩
 obtain ⟨rB,hrB⟩:∃rB,(Unt.regB false b regs)=rB:=⟨_,rfl⟩
 obtain ⟨rL,hrL⟩:∃rL,(decide (l.length≤0))=rL:=⟨_,rfl⟩
 obtain ⟨rI,hrI⟩:∃rI,(l.all (Unt.below · regs))=rI:=⟨_,rfl⟩
 obtain ⟨rT,hrT⟩:∃rT,(decide (0≤a))=rT:=⟨_,rfl⟩
 rw[hrD,hrB,hrL,hrI,hrT] at hr
 have HrD:=zh hrD
 have HrB:=zh hrB
 have HrL:=zh hrL
 have HrI:=zh hrI
 have HrT:=zh hrT
 have HR:=zh hr
 have HV:=zh hv
 obtain ⟨hlen,hcap,hmax⟩:=hv.lens
 have HL:=zh hlen
 clear hr hv hlen hrD hrB hrL hrI hrT
 go_enter func27,ntmps27
 go_wp2_with fail
 refine (zlq _).mono ?_
 rintro e' w1 ⟨rfl,hb1⟩
 obtain ⟨bx,bp,bu,hb⟩:=zaf hb1
 have HB:=zh hb
 have hs1:=bu.lt
 have z0:w.heap.size<w1.heap.size:=by omega
 have z1:w.heap.size+1<w1.heap.size:=by omega
 obtain ⟨x0,x1,x2,x3,x4,p0,p1,p2,p3,u0,u1⟩:=zau bx bp bu
 have HBP:=zh bp
 have HKE:=zh (Below.one w1 (.cells #[.bool true,.bool false,.bool false,.bool false,.bool true,.bool false] 97))
 have hp2:∀X,(w1.alloc X).cell? ⟨w.heap.size+1,2,none⟩=some (.int .i64 regs):=fun X=>keepC (Below.one w1 X) p2
 have HP2:=zh hp2
 clear hb1 bx bp bu hb hp2
 go_wp2_with fail
 refine (zaj true d regs rD HrD.out (w.heap.size+1) _ (HP2.out _)).mono ?_
 rintro e' w' ⟨rfl,rfl⟩
 cases rD with
 | false=>
  obtain rfl:false=r:=HR.out
  go_wp2_with fail
  go_ret
  exact ⟨rfl,HB.out.alloc (by omega) _⟩
 | true=>
  go_wp2_with fail
  refine (zaj false b regs rB HrB.out (w.heap.size+1) _ (HP2.out _)).mono ?_
  rintro e' w' ⟨rfl,rfl⟩
  cases rB with
  | false=>
   obtain rfl:false=r:=HR.out
   go_wp2_with fail
   go_ret
   exact ⟨rfl,HB.out.alloc (by omega) _⟩
  | true=>
   cases rL with
   | false=>
    have hpos:0<len:=by have h1:=of_decide_eq_false HrL.out;have h2:=HL.out;omega
    obtain rfl:false=r:=HR.out
    go_wp2_with fail
    go_ret
    exact ⟨rfl,HB.out.alloc (by omega) _⟩
   | true=>
    have hzero:len=0:=by have h1:=of_decide_eq_true HrL.out;have h2:=HL.out;omega
    have hz2:¬0<len:=by omega
    clear hzero
    have HC:=zh (fun X=>zax hB z0 HV.out HB.out HP2.out HrI.out X)
    go_wp2_with fail
    refine (HC.out _).mono ?_
    rintro e' w2 ⟨rfl,hb2⟩
    have HB2:=zh (Below.next (HB.out.alloc (by omega) _) hb2)
    have hs2:=hb2.size
    have y0:=keepC hb2 (keepC HKE.out x0)
    have y2:=keepC hb2 (keepC HKE.out x2)
    clear hb2 HC x0 x1 x2 x3 x4 p0 p1 p2 p3 u0 u1
    cases rI with
    | false=>
     obtain rfl:false=r:=HR.out
     go_wp2_with fail
     go_ret
     exact ⟨rfl,HB2.out⟩
    | true=>
     obtain rfl:rT=r:=HR.out
     have hT:decide (0≤a)=rT:=HrT.out
     go_wp2_with fail
     go_ret
     exact ⟨rfl,HB2.out⟩
theorem zl1:FitsC 7:=by
 intro d a b l o len cap args regs rest oc oa ok op lc cc la ca lk ck lp cp B w _ha hv hB r hr
 have e:Unt.fits ⟨7,d,a,b,l⟩ regs lc lp lk=(Unt.regB true d regs&&(Unt.regB false b regs&&(l.all (Unt.below · regs)&&(Unt.below a lp)))):=by
  rw[Unt.fits,show Unt.isOp 7=true by decide,show Unt.pD 7=true by decide,show Unt.pN 7=true by decide,show Unt.pM 7=false by decide,show Unt.pB 7=false by decide,show Unt.pL 7=true by decide,show Unt.tailOk ⟨7,d,a,b,l⟩ lc lp lk=Unt.below a lp by simp[Unt.tailOk]]
  simp only[Bool.true_and,Bool.true_or,Bool.false_or]
 rw[e] at hr
 clear e
 obtain ⟨rD,hrD⟩:∃rD,(Unt.regB true d regs)=rD:=⟨_,rfl⟩
 obtain ⟨rB,hrB⟩:∃rB,(Unt.regB false b regs)=rB:=⟨_,rfl⟩
 obtain ⟨rI,hrI⟩:∃rI,(l.all (Unt.below · regs))=rI:=⟨_,rfl⟩
 obtain ⟨rT,hrT⟩:∃rT,(Unt.below a lp)=rT:=⟨_,rfl⟩
 rw[hrD,hrB,hrI,hrT] at hr
 have HrD:=zh hrD
 have HrB:=zh hrB
 have HrI:=zh hrI
 have HrT:=zh hrT
 have HR:=zh hr
 have HV:=zh hv
 obtain ⟨hlen,hcap,hmax⟩:=hv.lens
 have HL:=zh hlen
 clear hr hv hlen hrD hrB hrI hrT
 go_enter func27,ntmps27
 go_wp2_with fail
 refine (zlk _).mono ?_
 rintro e' w1 ⟨rfl,hb1⟩
 obtain ⟨bx,bp,bu,hb⟩:=zaf hb1
 have HB:=zh hb
 have hs1:=bu.lt
 have z0:w.heap.size<w1.heap.size:=by omega
 have z1:w.heap.size+1<w1.heap.size:=by omega
 obtain ⟨x0,x1,x2,x3,x4,p0,p1,p2,p3,u0,u1⟩:=zau bx bp bu
 have HBP:=zh bp
 have HKE:=zh (Below.one w1 (.cells #[.bool true,.bool false,.bool false,.bool true,.bool true,.bool false] 97))
 have hp2:∀X,(w1.alloc X).cell? ⟨w.heap.size+1,2,none⟩=some (.int .i64 regs):=fun X=>keepC (Below.one w1 X) p2
 have HP2:=zh hp2
 clear hb1 bx bp bu hb hp2
 go_wp2_with fail
 refine (zaj true d regs rD HrD.out (w.heap.size+1) _ (HP2.out _)).mono ?_
 rintro e' w' ⟨rfl,rfl⟩
 cases rD with
 | false=>
  obtain rfl:false=r:=HR.out
  go_wp2_with fail
  go_ret
  exact ⟨rfl,HB.out.alloc (by omega) _⟩
 | true=>
  go_wp2_with fail
  refine (zaj false b regs rB HrB.out (w.heap.size+1) _ (HP2.out _)).mono ?_
  rintro e' w' ⟨rfl,rfl⟩
  cases rB with
  | false=>
   obtain rfl:false=r:=HR.out
   go_wp2_with fail
   go_ret
   exact ⟨rfl,HB.out.alloc (by omega) _⟩
  | true=>
   have HC:=zh (fun X=>zax hB z0 HV.out HB.out HP2.out HrI.out X)
   go_wp2_with fail
   refine (HC.out _).mono ?_
   rintro e' w2 ⟨rfl,hb2⟩
   have HB2:=zh (Below.next (HB.out.alloc (by omega) _) hb2)
   have hs2:=hb2.size
   have y0:=keepC hb2 (keepC HKE.out x0)
   have y2:=keepC hb2 (keepC HKE.out x2)
   have v1:=keepC hb2 (keepC HKE.out u1)
   clear hb2 HC x0 x1 x2 x3 x4 p0 p1 p2 p3 u0 u1
   cases rI with
   | false=>
    obtain rfl:false=r:=HR.out
    go_wp2_with fail
    go_ret
    exact ⟨rfl,HB2.out⟩
   | true=>
    obtain rfl:rT=r:=HR.out
    go_wp2_with fail
    refine (za6 _ _ rT HrT.out _).mono ?_
    rintro e' w' ⟨rfl,rfl⟩
    go_wp2_with fail
    go_ret
    exact ⟨rfl,HB2.out⟩
end
section
open Go.RowKit
theorem zmf:FitsC 8:=by
 intro d a b l o len cap args regs rest oc oa ok op lc cc la ca lk ck lp cp B w _ha hv hB r hr
 have e:Unt.fits ⟨8,d,a,b,l⟩ regs lc lp lk=(Unt.regB false d regs&&(Unt.regB true a regs&&(Unt.regB false b regs&&(l.all (Unt.below · regs))))):=by
  rw[Unt.fits,show Unt.isOp 8=true by decide,show Unt.pD 8=false by decide,show Unt.pN 8=false by decide,show Unt.pA 8=true by decide,show Unt.pM 8=false by decide,show Unt.pB 8=false by decide,show Unt.pL 8=true by decide,show Unt.tailOk ⟨8,d,a,b,l⟩ lc lp lk=true by simp[Unt.tailOk]]
  simp only[Bool.true_and,Bool.and_true,Bool.true_or,Bool.false_or]
 rw[e] at hr
 clear e
 obtain ⟨rD,hrD⟩:∃rD,(Unt.regB false d regs)=rD:=⟨_,rfl⟩
 obtain ⟨rA,hrA⟩:∃rA,(Unt.regB true a regs)=rA:=⟨_,rfl⟩
 obtain ⟨rB,hrB⟩:∃rB,(Unt.regB false b regs)=rB:=⟨_,rfl⟩
 obtain ⟨rI,hrI⟩:∃rI,(l.all (Unt.below · regs))=rI:=⟨_,rfl⟩
 rw[hrD,hrA,hrB,hrI] at hr
 have HrD:=zh hrD
 have HrA:=zh hrA
 have HrB:=zh hrB
 have HrI:=zh hrI
 have HR:=zh hr
 have HV:=zh hv
 obtain ⟨hlen,hcap,hmax⟩:=hv.lens
 have HL:=zh hlen
 clear hr hv hlen hrD hrA hrB hrI
 go_enter func27,ntmps27
 go_wp2_with fail
 refine (zlT _).mono ?_
 rintro e' w1 ⟨rfl,hb1⟩
 obtain ⟨bx,bp,bu,hb⟩:=zaf hb1
 have HB:=zh hb
 have hs1:=bu.lt
 have z0:w.heap.size<w1.heap.size:=by omega
 have z1:w.heap.size+1<w1.heap.size:=by omega
 obtain ⟨x0,x1,x2,x3,x4,p0,p1,p2,p3,u0,u1⟩:=zau bx bp bu
 have HBP:=zh bp
 have HKE:=zh (Below.one w1 (.cells #[.bool false,.bool true,.bool false,.bool true,.bool false,.bool false] 97))
 have hp2:∀X,(w1.alloc X).cell? ⟨w.heap.size+1,2,none⟩=some (.int .i64 regs):=fun X=>keepC (Below.one w1 X) p2
 have HP2:=zh hp2
 clear hb1 bx bp bu hb hp2
 go_wp2_with fail
 refine (zaj false d regs rD HrD.out (w.heap.size+1) _ (HP2.out _)).mono ?_
 rintro e' w' ⟨rfl,rfl⟩
 cases rD with
 | false=>
  obtain rfl:false=r:=HR.out
  go_wp2_with fail
  go_ret
  exact ⟨rfl,HB.out.alloc (by omega) _⟩
 | true=>
  go_wp2_with fail
  refine (zaj true a regs rA HrA.out (w.heap.size+1) _ (HP2.out _)).mono ?_
  rintro e' w' ⟨rfl,rfl⟩
  cases rA with
  | false=>
   obtain rfl:false=r:=HR.out
   go_wp2_with fail
   go_ret
   exact ⟨rfl,HB.out.alloc (by omega) _⟩
  | true=>
   go_wp2_with fail
   refine (zaj false b regs rB HrB.out (w.heap.size+1) _ (HP2.out _)).mono ?_
   rintro e' w' ⟨rfl,rfl⟩
   cases rB with
   | false=>
    obtain rfl:false=r:=HR.out
    go_wp2_with fail
    go_ret
    exact ⟨rfl,HB.out.alloc (by omega) _⟩
   | true=>
    have HC:=zh (fun X=>zax hB z0 HV.out HB.out HP2.out HrI.out X)
    go_wp2_with fail
    refine (HC.out _).mono ?_
    rintro e' w2 ⟨rfl,hb2⟩
    have HB2:=zh (Below.next (HB.out.alloc (by omega) _) hb2)
    have hs2:=hb2.size
    have y0:=keepC hb2 (keepC HKE.out x0)
    have y2:=keepC hb2 (keepC HKE.out x2)
    clear hb2 HC x0 x1 x2 x3 x4 p0 p1 p2 p3 u0 u1
    cases rI with
    | false=>
     obtain rfl:false=r:=HR.out
     go_wp2_with fail
     go_ret
     exact ⟨rfl,HB2.out⟩
    | true=>
     obtain rfl:true=r:=HR.out
     go_wp2_with fail
     go_ret
     exact ⟨rfl,HB2.out⟩
theorem zme:FitsC 9:=by
 intro d a b l o len cap args regs rest oc oa ok op lc cc la ca lk ck lp cp B w ha hv hB r hr
 have e:Unt.fits ⟨9,d,a,b,l⟩ regs lc lp lk=(Unt.regB true d regs&&(Unt.regB false b regs&&(l.all (Unt.below · regs)&&(Unt.below a 31)))):=by
  rw[Unt.fits,show Unt.isOp 9=true by decide,show Unt.pD 9=true by decide,show Unt.pN 9=true by decide,show Unt.pM 9=false by decide,show Unt.pB 9=false by decide,show Unt.pL 9=true by decide,show Unt.tailOk ⟨9,d,a,b,l⟩ lc lp lk=Unt.below a 31 by simp[Unt.tailOk]]
  simp only[Bool.true_and,Bool.true_or,Bool.false_or]
 rw[e] at hr
 clear e
 obtain ⟨rD,hrD⟩:∃rD,(Unt.regB true d regs)=rD:=⟨_,rfl⟩
 obtain ⟨rB,hrB⟩:∃rB,(Unt.regB false b regs)=rB:=⟨_,rfl⟩
 obtain ⟨rI,hrI⟩:∃rI,(l.all (Unt.below · regs))=rI:=⟨_,rfl⟩
 obtain ⟨rT,hrT⟩:∃rT,(Unt.below a 31)=rT:=⟨_,rfl⟩
 rw[hrD,hrB,hrI,hrT] at hr
 have HrD:=zh hrD
 have HrB:=zh hrB
 have HrI:=zh hrI
 have HrT:=zh hrT
 have HR:=zh hr
 have HV:=zh hv
 obtain ⟨hlen,hcap,hmax⟩:=hv.lens
 have HL:=zh hlen
 clear hr hv hlen hrD hrB hrI hrT
 go_enter func27,ntmps27
 go_wp2_with fail
 refine (zlw _).mono ?_
 rintro e' w1 ⟨rfl,hb1⟩
 obtain ⟨bx,bp,bu,hb⟩:=zaf hb1
 have HB:=zh hb
 have hs1:=bu.lt
 have z0:w.heap.size<w1.heap.size:=by omega
 have z1:w.heap.size+1<w1.heap.size:=by omega
 obtain ⟨x0,x1,x2,x3,x4,p0,p1,p2,p3,u0,u1⟩:=zau bx bp bu
 have HBP:=zh bp
 have HKE:=zh (Below.one w1 (.cells #[.bool true,.bool false,.bool false,.bool true,.bool true,.bool false] 97))
 have hp2:∀X,(w1.alloc X).cell? ⟨w.heap.size+1,2,none⟩=some (.int .i64 regs):=fun X=>keepC (Below.one w1 X) p2
 have HP2:=zh hp2
 clear hb1 bx bp bu hb hp2
 go_wp2_with fail
 refine (zaj true d regs rD HrD.out (w.heap.size+1) _ (HP2.out _)).mono ?_
 rintro e' w' ⟨rfl,rfl⟩
 cases rD with
 | false=>
  obtain rfl:false=r:=HR.out
  go_wp2_with fail
  go_ret
  exact ⟨rfl,HB.out.alloc (by omega) _⟩
 | true=>
  go_wp2_with fail
  refine (zaj false b regs rB HrB.out (w.heap.size+1) _ (HP2.out _)).mono ?_
  rintro e' w' ⟨rfl,rfl⟩
  cases rB with
  | false=>
   obtain rfl:false=r:=HR.out
   go_wp2_with fail
   go_ret
   exact ⟨rfl,HB.out.alloc (by omega) _⟩
  | true=>
   have HC:=zh (fun X=>zax hB z0 HV.out HB.out HP2.out HrI.out X)
   go_wp2_with fail
   refine (HC.out _).mono ?_
   rintro e' w2 ⟨rfl,hb2⟩
   have HB2:=zh (Below.next (HB.out.alloc (by omega) _) hb2)
   have hs2:=hb2.size
   have y0:=keepC hb2 (keepC HKE.out x0)
   have y2:=keepC hb2 (keepC HKE.out x2)
   clear hb2 HC x0 x1 x2 x3 x4 p0 p1 p2 p3 u0 u1
   cases rI with
   | false=>
    obtain rfl:false=r:=HR.out
    go_wp2_with fail
    go_ret
    exact ⟨rfl,HB2.out⟩
   | true=>
    obtain rfl:rT=r:=HR.out
    obtain ⟨⟨f0,f1,f2,f3,f4⟩,hf⟩:∃f,Prims.facts a=f:=⟨_,rfl⟩
    have HF:=zh hf
    have HH:=zh (show Prims.has a=rT from by rw[←HrT.out,Prims.has,Unt.below,Bool.decide_and,show decide (a≤30)=decide (a<31) from by rw[decide_eq_decide];omega])
    clear hf
    go_wp2_with fail
    refine (zcx a f0 f1 f2 f3 f4 rT HF.out HH.out ha.1 ha.2 _).mono ?_
    rintro e' w3 ⟨rfl,hb3⟩
    have HB3:=zh ((Below.next HB2.out hb3).alloc (by have:=hb3.size;simp at this hs2;omega) (.cells #[.string f0,.int .i64 f1,.int .i64 f2,.bool f3,.bool f4] 105))
    clear hb3
    go_wp2_with fail
    go_ret
    exact ⟨rfl,HB3.out⟩
theorem zlQ:FitsC 10:=by
 intro d a b l o len cap args regs rest oc oa ok op lc cc la ca lk ck lp cp B w _ha hv hB r hr
 have e:Unt.fits ⟨10,d,a,b,l⟩ regs lc lp lk=(Unt.regB true d regs&&(Unt.regB true a regs&&(Unt.regB false b regs&&(decide (l.length≤0)&&(l.all (Unt.below · regs)))))):=by
  rw[Unt.fits,show Unt.isOp 10=true by decide,show Unt.pD 10=true by decide,show Unt.pN 10=false by decide,show Unt.pA 10=true by decide,show Unt.pM 10=false by decide,show Unt.pB 10=false by decide,show Unt.pL 10=false by decide,show Unt.tailOk ⟨10,d,a,b,l⟩ lc lp lk=true by simp[Unt.tailOk]]
  simp only[Bool.true_and,Bool.and_true,Bool.false_or]
 rw[e] at hr
 clear e
 obtain ⟨rD,hrD⟩:∃rD,(Unt.regB true d regs)=rD:=⟨_,rfl⟩
 obtain ⟨rA,hrA⟩:∃rA,(Unt.regB true a regs)=rA:=⟨_,rfl⟩
 obtain ⟨rB,hrB⟩:∃rB,(Unt.regB false b regs)=rB:=⟨_,rfl⟩
 obtain ⟨rL,hrL⟩:∃rL,(decide (l.length≤0))=rL:=⟨_,rfl⟩
 obtain ⟨rI,hrI⟩:∃rI,(l.all (Unt.below · regs))=rI:=⟨_,rfl⟩
 rw[hrD,hrA,hrB,hrL,hrI] at hr
 have HrD:=zh hrD
 have HrA:=zh hrA
 have HrB:=zh hrB
 have HrL:=zh hrL
 have HrI:=zh hrI
 have HR:=zh hr
 have HV:=zh hv
 obtain ⟨hlen,hcap,hmax⟩:=hv.lens
 have HL:=zh hlen
 clear hr hv hlen hrD hrA hrB hrL hrI
 go_enter func27,ntmps27
 go_wp2_with fail
 refine (zkj _).mono ?_
 rintro e' w1 ⟨rfl,hb1⟩
 obtain ⟨bx,bp,bu,hb⟩:=zaf hb1
 have HB:=zh hb
 have hs1:=bu.lt
 have z0:w.heap.size<w1.heap.size:=by omega
 have z1:w.heap.size+1<w1.heap.size:=by omega
 obtain ⟨x0,x1,x2,x3,x4,p0,p1,p2,p3,u0,u1⟩:=zau bx bp bu
 have HBP:=zh bp
 have HKE:=zh (Below.one w1 (.cells #[.bool true,.bool true,.bool false,.bool false,.bool false,.bool false] 97))
 have hp2:∀X,(w1.alloc X).cell? ⟨w.heap.size+1,2,none⟩=some (.int .i64 regs):=fun X=>keepC (Below.one w1 X) p2
 have HP2:=zh hp2
 clear hb1 bx bp bu hb hp2
 go_wp2_with fail
 refine (zaj true d regs rD HrD.out (w.heap.size+1) _ (HP2.out _)).mono ?_
 rintro e' w' ⟨rfl,rfl⟩
 cases rD with
 | false=>
  obtain rfl:false=r:=HR.out
  go_wp2_with fail
  go_ret
  exact ⟨rfl,HB.out.alloc (by omega) _⟩
 | true=>
  go_wp2_with fail
  refine (zaj true a regs rA HrA.out (w.heap.size+1) _ (HP2.out _)).mono ?_
  rintro e' w' ⟨rfl,rfl⟩
  cases rA with
  | false=>
   obtain rfl:false=r:=HR.out
   go_wp2_with fail
   go_ret
   exact ⟨rfl,HB.out.alloc (by omega) _⟩
  | true=>
   go_wp2_with fail
   refine (zaj false b regs rB HrB.out (w.heap.size+1) _ (HP2.out _)).mono ?_
   rintro e' w' ⟨rfl,rfl⟩
   cases rB with
   | false=>
    obtain rfl:false=r:=HR.out
    go_wp2_with fail
    go_ret
    exact ⟨rfl,HB.out.alloc (by omega) _⟩
   | true=>
    cases rL with
    | false=>
     have hpos:0<len:=by have h1:=of_decide_eq_false HrL.out;have h2:=HL.out;omega
     obtain rfl:false=r:=HR.out
     go_wp2_with fail
     go_ret
     exact ⟨rfl,HB.out.alloc (by omega) _⟩
    | true=>
     have hzero:len=0:=by have h1:=of_decide_eq_true HrL.out;have h2:=HL.out;omega
     have hz2:¬0<len:=by omega
     clear hzero
     have HC:=zh (fun X=>zax hB z0 HV.out HB.out HP2.out HrI.out X)
     go_wp2_with fail
     refine (HC.out _).mono ?_
     rintro e' w2 ⟨rfl,hb2⟩
     have HB2:=zh (Below.next (HB.out.alloc (by omega) _) hb2)
     have hs2:=hb2.size
     have y0:=keepC hb2 (keepC HKE.out x0)
     have y2:=keepC hb2 (keepC HKE.out x2)
     clear hb2 HC x0 x1 x2 x3 x4 p0 p1 p2 p3 u0 u1
     cases rI with
     | false=>
      obtain rfl:false=r:=HR.out
      go_wp2_with fail
      go_ret
      exact ⟨rfl,HB2.out⟩
     | true=>
      obtain rfl:true=r:=HR.out
      go_wp2_with fail
      go_ret
      exact ⟨rfl,HB2.out⟩
theorem zkY:FitsC 11:=by
 intro d a b l o len cap args regs rest oc oa ok op lc cc la ca lk ck lp cp B w _ha hv hB r hr
 have e:Unt.fits ⟨11,d,a,b,l⟩ regs lc lp lk=(Unt.regB true d regs&&(Unt.regB true a regs&&(Unt.regB false b regs&&(decide (l.length≤0)&&(l.all (Unt.below · regs)))))):=by
  rw[Unt.fits,show Unt.isOp 11=true by decide,show Unt.pD 11=true by decide,show Unt.pN 11=false by decide,show Unt.pA 11=true by decide,show Unt.pM 11=false by decide,show Unt.pB 11=false by decide,show Unt.pL 11=false by decide,show Unt.tailOk ⟨11,d,a,b,l⟩ lc lp lk=true by simp[Unt.tailOk]]
  simp only[Bool.true_and,Bool.and_true,Bool.false_or]
 rw[e] at hr
 clear e
 obtain ⟨rD,hrD⟩:∃rD,(Unt.regB true d regs)=rD:=⟨_,rfl⟩
 obtain ⟨rA,hrA⟩:∃rA,(Unt.regB true a regs)=rA:=⟨_,rfl⟩
 obtain ⟨rB,hrB⟩:∃rB,(Unt.regB false b regs)=rB:=⟨_,rfl⟩
 obtain ⟨rL,hrL⟩:∃rL,(decide (l.length≤0))=rL:=⟨_,rfl⟩
 obtain ⟨rI,hrI⟩:∃rI,(l.all (Unt.below · regs))=rI:=⟨_,rfl⟩
 rw[hrD,hrA,hrB,hrL,hrI] at hr
 have HrD:=zh hrD
 have HrA:=zh hrA
 have HrB:=zh hrB
 have HrL:=zh hrL
 have HrI:=zh hrI
 have HR:=zh hr
 have HV:=zh hv
 obtain ⟨hlen,hcap,hmax⟩:=hv.lens
 have HL:=zh hlen
 clear hr hv hlen hrD hrA hrB hrL hrI
 go_enter func27,ntmps27
 go_wp2_with fail
 refine (zjv _).mono ?_
 rintro e' w1 ⟨rfl,hb1⟩
 obtain ⟨bx,bp,bu,hb⟩:=zaf hb1
 have HB:=zh hb
 have hs1:=bu.lt
 have z0:w.heap.size<w1.heap.size:=by omega
 have z1:w.heap.size+1<w1.heap.size:=by omega
 obtain ⟨x0,x1,x2,x3,x4,p0,p1,p2,p3,u0,u1⟩:=zau bx bp bu
 have HBP:=zh bp
 have HKE:=zh (Below.one w1 (.cells #[.bool true,.bool true,.bool false,.bool false,.bool false,.bool false] 97))
 have hp2:∀X,(w1.alloc X).cell? ⟨w.heap.size+1,2,none⟩=some (.int .i64 regs):=fun X=>keepC (Below.one w1 X) p2
 have HP2:=zh hp2
 clear hb1 bx bp bu hb hp2
 go_wp2_with fail
 refine (zaj true d regs rD HrD.out (w.heap.size+1) _ (HP2.out _)).mono ?_
 rintro e' w' ⟨rfl,rfl⟩
 cases rD with
 | false=>
  obtain rfl:false=r:=HR.out
  go_wp2_with fail
  go_ret
  exact ⟨rfl,HB.out.alloc (by omega) _⟩
 | true=>
  go_wp2_with fail
  refine (zaj true a regs rA HrA.out (w.heap.size+1) _ (HP2.out _)).mono ?_
  rintro e' w' ⟨rfl,rfl⟩
  cases rA with
  | false=>
   obtain rfl:false=r:=HR.out
   go_wp2_with fail
   go_ret
   exact ⟨rfl,HB.out.alloc (by omega) _⟩
  | true=>
   go_wp2_with fail
   refine (zaj false b regs rB HrB.out (w.heap.size+1) _ (HP2.out _)).mono ?_
   rintro e' w' ⟨rfl,rfl⟩
   cases rB with
   | false=>
    obtain rfl:false=r:=HR.out
    go_wp2_with fail
    go_ret
    exact ⟨rfl,HB.out.alloc (by omega) _⟩
   | true=>
    cases rL with
    | false=>
     have hpos:0<len:=by have h1:=of_decide_eq_false HrL.out;have h2:=HL.out;omega
     obtain rfl:false=r:=HR.out
     go_wp2_with fail
     go_ret
     exact ⟨rfl,HB.out.alloc (by omega) _⟩
    | true=>
     have hzero:len=0:=by have h1:=of_decide_eq_true HrL.out;have h2:=HL.out;omega
     have hz2:¬0<len:=by omega
     clear hzero
     have HC:=zh (fun X=>zax hB z0 HV.out HB.out HP2.out HrI.out X)
     go_wp2_with fail
     refine (HC.out _).mono ?_
     rintro e' w2 ⟨rfl,hb2⟩
     have HB2:=zh (Below.next (HB.out.alloc (by omega) _) hb2)
     have hs2:=hb2.size
     have y0:=keepC hb2 (keepC HKE.out x0)
     have y2:=keepC hb2 (keepC HKE.out x2)
     clear hb2 HC x0 x1 x2 x3 x4 p0 p1 p2 p3 u0 u1
     cases rI with
     | false=>
      obtain rfl:false=r:=HR.out
      go_wp2_with fail
      go_ret
      exact ⟨rfl,HB2.out⟩
     | true=>
      obtain rfl:true=r:=HR.out
      go_wp2_with fail
      go_ret
      exact ⟨rfl,HB2.out⟩
theorem zk0:FitsC 12:=by
 intro d a b l o len cap args regs rest oc oa ok op lc cc la ca lk ck lp cp B w _ha hv hB r hr
 have e:Unt.fits ⟨12,d,a,b,l⟩ regs lc lp lk=(Unt.regB false d regs&&(Unt.regB true a regs&&(Unt.regB true b regs&&(decide (l.length≤0)&&(l.all (Unt.below · regs)))))):=by
  rw[Unt.fits,show Unt.isOp 12=true by decide,show Unt.pD 12=false by decide,show Unt.pN 12=false by decide,show Unt.pA 12=true by decide,show Unt.pM 12=false by decide,show Unt.pB 12=true by decide,show Unt.pL 12=false by decide,show Unt.tailOk ⟨12,d,a,b,l⟩ lc lp lk=true by simp[Unt.tailOk]]
  simp only[Bool.true_and,Bool.and_true,Bool.false_or]
 rw[e] at hr
 clear e
 obtain ⟨rD,hrD⟩:∃rD,(Unt.regB false d regs)=rD:=⟨_,rfl⟩
 obtain ⟨rA,hrA⟩:∃rA,(Unt.regB true a regs)=rA:=⟨_,rfl⟩
 obtain ⟨rB,hrB⟩:∃rB,(Unt.regB true b regs)=rB:=⟨_,rfl⟩
 obtain ⟨rL,hrL⟩:∃rL,(decide (l.length≤0))=rL:=⟨_,rfl⟩
 obtain ⟨rI,hrI⟩:∃rI,(l.all (Unt.below · regs))=rI:=⟨_,rfl⟩
 rw[hrD,hrA,hrB,hrL,hrI] at hr
 have HrD:=zh hrD
 have HrA:=zh hrA
 have HrB:=zh hrB
 have HrL:=zh hrL
 have HrI:=zh hrI
 have HR:=zh hr
 have HV:=zh hv
 obtain ⟨hlen,hcap,hmax⟩:=hv.lens
 have HL:=zh hlen
 clear hr hv hlen hrD hrA hrB hrL hrI
 go_enter func27,ntmps27
 go_wp2_with fail
 refine (zjt _).mono ?_
 rintro e' w1 ⟨rfl,hb1⟩
 obtain ⟨bx,bp,bu,hb⟩:=zaf hb1
 have HB:=zh hb
 have hs1:=bu.lt
 have z0:w.heap.size<w1.heap.size:=by omega
 have z1:w.heap.size+1<w1.heap.size:=by omega
 obtain ⟨x0,x1,x2,x3,x4,p0,p1,p2,p3,u0,u1⟩:=zau bx bp bu
 have HBP:=zh bp
 have HKE:=zh (Below.one w1 (.cells #[.bool false,.bool true,.bool true,.bool false,.bool false,.bool false] 97))
 have hp2:∀X,(w1.alloc X).cell? ⟨w.heap.size+1,2,none⟩=some (.int .i64 regs):=fun X=>keepC (Below.one w1 X) p2
 have HP2:=zh hp2
 clear hb1 bx bp bu hb hp2
 go_wp2_with fail
 refine (zaj false d regs rD HrD.out (w.heap.size+1) _ (HP2.out _)).mono ?_
 rintro e' w' ⟨rfl,rfl⟩
 cases rD with
 | false=>
  obtain rfl:false=r:=HR.out
  go_wp2_with fail
  go_ret
  exact ⟨rfl,HB.out.alloc (by omega) _⟩
 | true=>
  go_wp2_with fail
  refine (zaj true a regs rA HrA.out (w.heap.size+1) _ (HP2.out _)).mono ?_
  rintro e' w' ⟨rfl,rfl⟩
  cases rA with
  | false=>
   obtain rfl:false=r:=HR.out
   go_wp2_with fail
   go_ret
   exact ⟨rfl,HB.out.alloc (by omega) _⟩
  | true=>
   go_wp2_with fail
   refine (zaj true b regs rB HrB.out (w.heap.size+1) _ (HP2.out _)).mono ?_
   rintro e' w' ⟨rfl,rfl⟩
   cases rB with
   | false=>
    obtain rfl:false=r:=HR.out
    go_wp2_with fail
    go_ret
    exact ⟨rfl,HB.out.alloc (by omega) _⟩
   | true=>
    cases rL with
    | false=>
     have hpos:0<len:=by have h1:=of_decide_eq_false HrL.out;have h2:=HL.out;omega
     obtain rfl:false=r:=HR.out
     go_wp2_with fail
     go_ret
     exact ⟨rfl,HB.out.alloc (by omega) _⟩
    | true=>
     have hzero:len=0:=by have h1:=of_decide_eq_true HrL.out;have h2:=HL.out;omega
     have hz2:¬0<len:=by omega
     clear hzero
     have HC:=zh (fun X=>zax hB z0 HV.out HB.out HP2.out HrI.out X)
     go_wp2_with fail
     refine (HC.out _).mono ?_
     rintro e' w2 ⟨rfl,hb2⟩
     have HB2:=zh (Below.next (HB.out.alloc (by omega) _) hb2)
     have hs2:=hb2.size
     have y0:=keepC hb2 (keepC HKE.out x0)
     have y2:=keepC hb2 (keepC HKE.out x2)
     clear hb2 HC x0 x1 x2 x3 x4 p0 p1 p2 p3 u0 u1
     cases rI with
     | false=>
      obtain rfl:false=r:=HR.out
      go_wp2_with fail
      go_ret
      exact ⟨rfl,HB2.out⟩
     | true=>
      obtain rfl:true=r:=HR.out
      go_wp2_with fail
      go_ret
      exact ⟨rfl,HB2.out⟩
theorem zk4:FitsC 13:=by
 intro d a b l o len cap args regs rest oc oa ok op lc cc la ca lk ck lp cp B w _ha hv hB r hr
 have e:Unt.fits ⟨13,d,a,b,l⟩ regs lc lp lk=(Unt.regB false d regs&&(Unt.regB true a regs&&(Unt.regB true b regs&&(decide (l.length≤0)&&(l.all (Unt.below · regs)))))):=by
  rw[Unt.fits,show Unt.isOp 13=true by decide,show Unt.pD 13=false by decide,show Unt.pN 13=false by decide,show Unt.pA 13=true by decide,show Unt.pM 13=false by decide,show Unt.pB 13=true by decide,show Unt.pL 13=false by decide,show Unt.tailOk ⟨13,d,a,b,l⟩ lc lp lk=true by simp[Unt.tailOk]]
  simp only[Bool.true_and,Bool.and_true,Bool.false_or]
 rw[e] at hr
 clear e
 obtain ⟨rD,hrD⟩:∃rD,(Unt.regB false d regs)=rD:=⟨_,rfl⟩
 obtain ⟨rA,hrA⟩:∃rA,(Unt.regB true a regs)=rA:=⟨_,rfl⟩
 obtain ⟨rB,hrB⟩:∃rB,(Unt.regB true b regs)=rB:=⟨_,rfl⟩
 obtain ⟨rL,hrL⟩:∃rL,(decide (l.length≤0))=rL:=⟨_,rfl⟩
 obtain ⟨rI,hrI⟩:∃rI,(l.all (Unt.below · regs))=rI:=⟨_,rfl⟩
 rw[hrD,hrA,hrB,hrL,hrI] at hr
 have HrD:=zh hrD
 have HrA:=zh hrA
 have HrB:=zh hrB
 have HrL:=zh hrL
 have HrI:=zh hrI
 have HR:=zh hr
 have HV:=zh hv
 obtain ⟨hlen,hcap,hmax⟩:=hv.lens
 have HL:=zh hlen
 clear hr hv hlen hrD hrA hrB hrL hrI
 go_enter func27,ntmps27
 go_wp2_with fail
 refine (zjP _).mono ?_
 rintro e' w1 ⟨rfl,hb1⟩
 obtain ⟨bx,bp,bu,hb⟩:=zaf hb1
 have HB:=zh hb
 have hs1:=bu.lt
 have z0:w.heap.size<w1.heap.size:=by omega
 have z1:w.heap.size+1<w1.heap.size:=by omega
 obtain ⟨x0,x1,x2,x3,x4,p0,p1,p2,p3,u0,u1⟩:=zau bx bp bu
 have HBP:=zh bp
 have HKE:=zh (Below.one w1 (.cells #[.bool false,.bool true,.bool true,.bool false,.bool false,.bool false] 97))
 have hp2:∀X,(w1.alloc X).cell? ⟨w.heap.size+1,2,none⟩=some (.int .i64 regs):=fun X=>keepC (Below.one w1 X) p2
 have HP2:=zh hp2
 clear hb1 bx bp bu hb hp2
 go_wp2_with fail
 refine (zaj false d regs rD HrD.out (w.heap.size+1) _ (HP2.out _)).mono ?_
 rintro e' w' ⟨rfl,rfl⟩
 cases rD with
 | false=>
  obtain rfl:false=r:=HR.out
  go_wp2_with fail
  go_ret
  exact ⟨rfl,HB.out.alloc (by omega) _⟩
 | true=>
  go_wp2_with fail
  refine (zaj true a regs rA HrA.out (w.heap.size+1) _ (HP2.out _)).mono ?_
  rintro e' w' ⟨rfl,rfl⟩
  cases rA with
  | false=>
   obtain rfl:false=r:=HR.out
   go_wp2_with fail
   go_ret
   exact ⟨rfl,HB.out.alloc (by omega) _⟩
  | true=>
   go_wp2_with fail
   refine (zaj true b regs rB HrB.out (w.heap.size+1) _ (HP2.out _)).mono ?_
   rintro e' w' ⟨rfl,rfl⟩
   cases rB with
   | false=>
    obtain rfl:false=r:=HR.out
    go_wp2_with fail
    go_ret
    exact ⟨rfl,HB.out.alloc (by omega) _⟩
   | true=>
    cases rL with
    | false=>
     have hpos:0<len:=by have h1:=of_decide_eq_false HrL.out;have h2:=HL.out;omega
     obtain rfl:false=r:=HR.out
     go_wp2_with fail
     go_ret
     exact ⟨rfl,HB.out.alloc (by omega) _⟩
    | true=>
     have hzero:len=0:=by have h1:=of_decide_eq_true HrL.out;have h2:=HL.out;omega
     have hz2:¬0<len:=by omega
     clear hzero
     have HC:=zh (fun X=>zax hB z0 HV.out HB.out HP2.out HrI.out X)
     go_wp2_with fail
     refine (HC.out _).mono ?_
     rintro e' w2 ⟨rfl,hb2⟩
     have HB2:=zh (Below.next (HB.out.alloc (by omega) _) hb2)
     have hs2:=hb2.size
     have y0:=keepC hb2 (keepC HKE.out x0)
     have y2:=keepC hb2 (keepC HKE.out x2)
     clear hb2 HC x0 x1 x2 x3 x4 p0 p1 p2 p3 u0 u1
     cases rI with
     | false=>
      obtain rfl:false=r:=HR.out
      go_wp2_with fail
      go_ret
      exact ⟨rfl,HB2.out⟩
     | true=>
      obtain rfl:true=r:=HR.out
      go_wp2_with fail
      go_ret
      exact ⟨rfl,HB2.out⟩
theorem zkX:FitsC 14:=by
 intro d a b l o len cap args regs rest oc oa ok op lc cc la ca lk ck lp cp B w _ha hv hB r hr
 have e:Unt.fits ⟨14,d,a,b,l⟩ regs lc lp lk=(Unt.regB true d regs&&(Unt.regB true a regs&&(Unt.regB false b regs&&(decide (l.length≤0)&&(l.all (Unt.below · regs)))))):=by
  rw[Unt.fits,show Unt.isOp 14=true by decide,show Unt.pD 14=true by decide,show Unt.pN 14=false by decide,show Unt.pA 14=true by decide,show Unt.pM 14=false by decide,show Unt.pB 14=false by decide,show Unt.pL 14=false by decide,show Unt.tailOk ⟨14,d,a,b,l⟩ lc lp lk=true by simp[Unt.tailOk]]
  simp only[Bool.true_and,Bool.and_true,Bool.false_or]
 rw[e] at hr
 clear e
 obtain ⟨rD,hrD⟩:∃rD,(Unt.regB true d regs)=rD:=⟨_,rfl⟩
 obtain ⟨rA,hrA⟩:∃rA,(Unt.regB true a regs)=rA:=⟨_,rfl⟩
 obtain ⟨rB,hrB⟩:∃rB,(Unt.regB false b regs)=rB:=⟨_,rfl⟩
 obtain ⟨rL,hrL⟩:∃rL,(decide (l.length≤0))=rL:=⟨_,rfl⟩
 obtain ⟨rI,hrI⟩:∃rI,(l.all (Unt.below · regs))=rI:=⟨_,rfl⟩
 rw[hrD,hrA,hrB,hrL,hrI] at hr
 have HrD:=zh hrD
 have HrA:=zh hrA
 have HrB:=zh hrB
 have HrL:=zh hrL
 have HrI:=zh hrI
 have HR:=zh hr
 have HV:=zh hv
 obtain ⟨hlen,hcap,hmax⟩:=hv.lens
 have HL:=zh hlen
 clear hr hv hlen hrD hrA hrB hrL hrI
 go_enter func27,ntmps27
 go_wp2_with fail
 refine (zkw _).mono ?_
 rintro e' w1 ⟨rfl,hb1⟩
 obtain ⟨bx,bp,bu,hb⟩:=zaf hb1
 have HB:=zh hb
 have hs1:=bu.lt
 have z0:w.heap.size<w1.heap.size:=by omega
 have z1:w.heap.size+1<w1.heap.size:=by omega
 obtain ⟨x0,x1,x2,x3,x4,p0,p1,p2,p3,u0,u1⟩:=zau bx bp bu
 have HBP:=zh bp
 have HKE:=zh (Below.one w1 (.cells #[.bool true,.bool true,.bool false,.bool false,.bool false,.bool false] 97))
 have hp2:∀X,(w1.alloc X).cell? ⟨w.heap.size+1,2,none⟩=some (.int .i64 regs):=fun X=>keepC (Below.one w1 X) p2
 have HP2:=zh hp2
 clear hb1 bx bp bu hb hp2
 go_wp2_with fail
 refine (zaj true d regs rD HrD.out (w.heap.size+1) _ (HP2.out _)).mono ?_
 rintro e' w' ⟨rfl,rfl⟩
 cases rD with
 | false=>
  obtain rfl:false=r:=HR.out
  go_wp2_with fail
  go_ret
  exact ⟨rfl,HB.out.alloc (by omega) _⟩
 | true=>
  go_wp2_with fail
  refine (zaj true a regs rA HrA.out (w.heap.size+1) _ (HP2.out _)).mono ?_
  rintro e' w' ⟨rfl,rfl⟩
  cases rA with
  | false=>
   obtain rfl:false=r:=HR.out
   go_wp2_with fail
   go_ret
   exact ⟨rfl,HB.out.alloc (by omega) _⟩
  | true=>
   go_wp2_with fail
   refine (zaj false b regs rB HrB.out (w.heap.size+1) _ (HP2.out _)).mono ?_
   rintro e' w' ⟨rfl,rfl⟩
   cases rB with
   | false=>
    obtain rfl:false=r:=HR.out
    go_wp2_with fail
    go_ret
    exact ⟨rfl,HB.out.alloc (by omega) _⟩
   | true=>
    cases rL with
    | false=>
     have hpos:0<len:=by have h1:=of_decide_eq_false HrL.out;have h2:=HL.out;omega
     obtain rfl:false=r:=HR.out
     go_wp2_with fail
     go_ret
     exact ⟨rfl,HB.out.alloc (by omega) _⟩
    | true=>
     have hzero:len=0:=by have h1:=of_decide_eq_true HrL.out;have h2:=HL.out;omega
     have hz2:¬0<len:=by omega
     clear hzero
     have HC:=zh (fun X=>zax hB z0 HV.out HB.out HP2.out HrI.out X)
     go_wp2_with fail
     refine (HC.out _).mono ?_
     rintro e' w2 ⟨rfl,hb2⟩
     have HB2:=zh (Below.next (HB.out.alloc (by omega) _) hb2)
     have hs2:=hb2.size
     have y0:=keepC hb2 (keepC HKE.out x0)
     have y2:=keepC hb2 (keepC HKE.out x2)
     clear hb2 HC x0 x1 x2 x3 x4 p0 p1 p2 p3 u0 u1
     cases rI with
     | false=>
      obtain rfl:false=r:=HR.out
      go_wp2_with fail
      go_ret
      exact ⟨rfl,HB2.out⟩
     | true=>
      obtain rfl:true=r:=HR.out
      go_wp2_with fail
      go_ret
      exact ⟨rfl,HB2.out⟩
theorem zlo:FitsC 15:=by
 intro d a b l o len cap args regs rest oc oa ok op lc cc la ca lk ck lp cp B w _ha hv hB r hr
 have e:Unt.fits ⟨15,d,a,b,l⟩ regs lc lp lk=(Unt.regB false d regs&&(Unt.regB false b regs&&(decide (l.length≤0)&&(l.all (Unt.below · regs)&&(Unt.below a lc))))):=by
  rw[Unt.fits,show Unt.isOp 15=true by decide,show Unt.pD 15=false by decide,show Unt.pN 15=true by decide,show Unt.pM 15=false by decide,show Unt.pB 15=false by decide,show Unt.pL 15=false by decide,show Unt.tailOk ⟨15,d,a,b,l⟩ lc lp lk=Unt.below a lc by simp[Unt.tailOk]]
  simp only[Bool.true_and,Bool.true_or,Bool.false_or]
 rw[e] at hr
 clear e
 obtain ⟨rD,hrD⟩:∃rD,(Unt.regB false d regs)=rD:=⟨_,rfl⟩
 obtain ⟨rB,hrB⟩:∃rB,(Unt.regB false b regs)=rB:=⟨_,rfl⟩
 obtain ⟨rL,hrL⟩:∃rL,(decide (l.length≤0))=rL:=⟨_,rfl⟩
 obtain ⟨rI,hrI⟩:∃rI,(l.all (Unt.below · regs))=rI:=⟨_,rfl⟩
 obtain ⟨rT,hrT⟩:∃rT,(Unt.below a lc)=rT:=⟨_,rfl⟩
 rw[hrD,hrB,hrL,hrI,hrT] at hr
 have HrD:=zh hrD
 have HrB:=zh hrB
 have HrL:=zh hrL
 have HrI:=zh hrI
 have HrT:=zh hrT
 have HR:=zh hr
 have HV:=zh hv
 obtain ⟨hlen,hcap,hmax⟩:=hv.lens
 have HL:=zh hlen
 clear hr hv hlen hrD hrB hrL hrI hrT
 go_enter func27,ntmps27
 go_wp2_with fail
 refine (zjD _).mono ?_
 rintro e' w1 ⟨rfl,hb1⟩
 obtain ⟨bx,bp,bu,hb⟩:=zaf hb1
 have HB:=zh hb
 have hs1:=bu.lt
 have z0:w.heap.size<w1.heap.size:=by omega
 have z1:w.heap.size+1<w1.heap.size:=by omega
 obtain ⟨x0,x1,x2,x3,x4,p0,p1,p2,p3,u0,u1⟩:=zau bx bp bu
 have HBP:=zh bp
 have HKE:=zh (Below.one w1 (.cells #[.bool false,.bool false,.bool false,.bool false,.bool true,.bool false] 97))
 have hp2:∀X,(w1.alloc X).cell? ⟨w.heap.size+1,2,none⟩=some (.int .i64 regs):=fun X=>keepC (Below.one w1 X) p2
 have HP2:=zh hp2
 clear hb1 bx bp bu hb hp2
 go_wp2_with fail
 refine (zaj false d regs rD HrD.out (w.heap.size+1) _ (HP2.out _)).mono ?_
 rintro e' w' ⟨rfl,rfl⟩
 cases rD with
 | false=>
  obtain rfl:false=r:=HR.out
  go_wp2_with fail
  go_ret
  exact ⟨rfl,HB.out.alloc (by omega) _⟩
 | true=>
  go_wp2_with fail
  refine (zaj false b regs rB HrB.out (w.heap.size+1) _ (HP2.out _)).mono ?_
  rintro e' w' ⟨rfl,rfl⟩
  cases rB with
  | false=>
   obtain rfl:false=r:=HR.out
   go_wp2_with fail
   go_ret
   exact ⟨rfl,HB.out.alloc (by omega) _⟩
  | true=>
   cases rL with
   | false=>
    have hpos:0<len:=by have h1:=of_decide_eq_false HrL.out;have h2:=HL.out;omega
    obtain rfl:false=r:=HR.out
    go_wp2_with fail
    go_ret
    exact ⟨rfl,HB.out.alloc (by omega) _⟩
   | true=>
    have hzero:len=0:=by have h1:=of_decide_eq_true HrL.out;have h2:=HL.out;omega
    have hz2:¬0<len:=by omega
    clear hzero
    have HC:=zh (fun X=>zax hB z0 HV.out HB.out HP2.out HrI.out X)
    go_wp2_with fail
    refine (HC.out _).mono ?_
    rintro e' w2 ⟨rfl,hb2⟩
    have HB2:=zh (Below.next (HB.out.alloc (by omega) _) hb2)
    have hs2:=hb2.size
    have y0:=keepC hb2 (keepC HKE.out x0)
    have y2:=keepC hb2 (keepC HKE.out x2)
    have q3:=keepC hb2 (keepC HKE.out p3)
    clear hb2 HC x0 x1 x2 x3 x4 p0 p1 p2 p3 u0 u1
    cases rI with
    | false=>
     obtain rfl:false=r:=HR.out
     go_wp2_with fail
     go_ret
     exact ⟨rfl,HB2.out⟩
    | true=>
     obtain rfl:rT=r:=HR.out
     go_wp2_with fail
     refine (za6 _ _ rT HrT.out _).mono ?_
     rintro e' w' ⟨rfl,rfl⟩
     go_wp2_with fail
     go_ret
     exact ⟨rfl,HB2.out⟩
end
section
open Go.RowKit
theorem zlg:FitsC 16:=by
 intro d a b l o len cap args regs rest oc oa ok op lc cc la ca lk ck lp cp B w _ha hv hB r hr
 have e:Unt.fits ⟨16,d,a,b,l⟩ regs lc lp lk=(Unt.regB false d regs&&(Unt.regB true a regs&&(decide (l.length≤0)&&(l.all (Unt.below · regs)&&(Unt.below b lc))))):=by
  rw[Unt.fits,show Unt.isOp 16=true by decide,show Unt.pD 16=false by decide,show Unt.pN 16=false by decide,show Unt.pA 16=true by decide,show Unt.pM 16=true by decide,show Unt.pL 16=false by decide,show Unt.tailOk ⟨16,d,a,b,l⟩ lc lp lk=Unt.below b lc by simp[Unt.tailOk]]
  simp only[Bool.true_and,Bool.true_or,Bool.false_or]
 rw[e] at hr
 clear e
 obtain ⟨rD,hrD⟩:∃rD,(Unt.regB false d regs)=rD:=⟨_,rfl⟩
 obtain ⟨rA,hrA⟩:∃rA,(Unt.regB true a regs)=rA:=⟨_,rfl⟩
 obtain ⟨rL,hrL⟩:∃rL,(decide (l.length≤0))=rL:=⟨_,rfl⟩
 obtain ⟨rI,hrI⟩:∃rI,(l.all (Unt.below · regs))=rI:=⟨_,rfl⟩
 obtain ⟨rT,hrT⟩:∃rT,(Unt.below b lc)=rT:=⟨_,rfl⟩
 rw[hrD,hrA,hrL,hrI,hrT] at hr
 have HrD:=zh hrD
 have HrA:=zh hrA
 have HrL:=zh hrL
 have HrI:=zh hrI
 have HrT:=zh hrT
 have HR:=zh hr
 have HV:=zh hv
 obtain ⟨hlen,hcap,hmax⟩:=hv.lens
 have HL:=zh hlen
 clear hr hv hlen hrD hrA hrL hrI hrT
 go_enter func27,ntmps27
 go_wp2_with fail
 refine (zkd _).mono ?_
 rintro e' w1 ⟨rfl,hb1⟩
 obtain ⟨bx,bp,bu,hb⟩:=zaf hb1
 have HB:=zh hb
 have hs1:=bu.lt
 have z0:w.heap.size<w1.heap.size:=by omega
 have z1:w.heap.size+1<w1.heap.size:=by omega
 obtain ⟨x0,x1,x2,x3,x4,p0,p1,p2,p3,u0,u1⟩:=zau bx bp bu
 have HBP:=zh bp
 have HKE:=zh (Below.one w1 (.cells #[.bool false,.bool true,.bool false,.bool false,.bool false,.bool true] 97))
 have hp2:∀X,(w1.alloc X).cell? ⟨w.heap.size+1,2,none⟩=some (.int .i64 regs):=fun X=>keepC (Below.one w1 X) p2
 have HP2:=zh hp2
 clear hb1 bx bp bu hb hp2
 go_wp2_with fail
 refine (zaj false d regs rD HrD.out (w.heap.size+1) _ (HP2.out _)).mono ?_
 rintro e' w' ⟨rfl,rfl⟩
 cases rD with
 | false=>
  obtain rfl:false=r:=HR.out
  go_wp2_with fail
  go_ret
  exact ⟨rfl,HB.out.alloc (by omega) _⟩
 | true=>
  go_wp2_with fail
  refine (zaj true a regs rA HrA.out (w.heap.size+1) _ (HP2.out _)).mono ?_
  rintro e' w' ⟨rfl,rfl⟩
  cases rA with
  | false=>
   obtain rfl:false=r:=HR.out
   go_wp2_with fail
   go_ret
   exact ⟨rfl,HB.out.alloc (by omega) _⟩
  | true=>
   cases rL with
   | false=>
    have hpos:0<len:=by have h1:=of_decide_eq_false HrL.out;have h2:=HL.out;omega
    obtain rfl:false=r:=HR.out
    go_wp2_with fail
    go_ret
    exact ⟨rfl,HB.out.alloc (by omega) _⟩
   | true=>
    have hzero:len=0:=by have h1:=of_decide_eq_true HrL.out;have h2:=HL.out;omega
    have hz2:¬0<len:=by omega
    clear hzero
    have HC:=zh (fun X=>zax hB z0 HV.out HB.out HP2.out HrI.out X)
    go_wp2_with fail
    refine (HC.out _).mono ?_
    rintro e' w2 ⟨rfl,hb2⟩
    have HB2:=zh (Below.next (HB.out.alloc (by omega) _) hb2)
    have hs2:=hb2.size
    have y0:=keepC hb2 (keepC HKE.out x0)
    have y2:=keepC hb2 (keepC HKE.out x2)
    have y3:=keepC hb2 (keepC HKE.out x3)
    have q3:=keepC hb2 (keepC HKE.out p3)
    clear hb2 HC x0 x1 x2 x3 x4 p0 p1 p2 p3 u0 u1
    cases rI with
    | false=>
     obtain rfl:false=r:=HR.out
     go_wp2_with fail
     go_ret
     exact ⟨rfl,HB2.out⟩
    | true=>
     obtain rfl:rT=r:=HR.out
     go_wp2_with fail
     refine (za6 _ _ rT HrT.out _).mono ?_
     rintro e' w' ⟨rfl,rfl⟩
     go_wp2_with fail
     go_ret
     exact ⟨rfl,HB2.out⟩
theorem zlJ:FitsC 17:=by
 intro d a b l o len cap args regs rest oc oa ok op lc cc la ca lk ck lp cp B w _ha hv hB r hr
 have e:Unt.fits ⟨17,d,a,b,l⟩ regs lc lp lk=(Unt.regB true d regs&&(Unt.regB true a regs&&(Unt.regB false b regs&&(l.all (Unt.below · regs))))):=by
  rw[Unt.fits,show Unt.isOp 17=true by decide,show Unt.pD 17=true by decide,show Unt.pN 17=false by decide,show Unt.pA 17=true by decide,show Unt.pM 17=false by decide,show Unt.pB 17=false by decide,show Unt.pL 17=true by decide,show Unt.tailOk ⟨17,d,a,b,l⟩ lc lp lk=true by simp[Unt.tailOk]]
  simp only[Bool.true_and,Bool.and_true,Bool.true_or,Bool.false_or]
 rw[e] at hr
 clear e
 obtain ⟨rD,hrD⟩:∃rD,(Unt.regB true d regs)=rD:=⟨_,rfl⟩
 obtain ⟨rA,hrA⟩:∃rA,(Unt.regB true a regs)=rA:=⟨_,rfl⟩
 obtain ⟨rB,hrB⟩:∃rB,(Unt.regB false b regs)=rB:=⟨_,rfl⟩
 obtain ⟨rI,hrI⟩:∃rI,(l.all (Unt.below · regs))=rI:=⟨_,rfl⟩
 rw[hrD,hrA,hrB,hrI] at hr
 have HrD:=zh hrD
 have HrA:=zh hrA
 have HrB:=zh hrB
 have HrI:=zh hrI
 have HR:=zh hr
 have HV:=zh hv
 obtain ⟨hlen,hcap,hmax⟩:=hv.lens
 have HL:=zh hlen
 clear hr hv hlen hrD hrA hrB hrI
 go_enter func27,ntmps27
 go_wp2_with fail
 refine (ziM _).mono ?_
 rintro e' w1 ⟨rfl,hb1⟩
 obtain ⟨bx,bp,bu,hb⟩:=zaf hb1
 have HB:=zh hb
 have hs1:=bu.lt
 have z0:w.heap.size<w1.heap.size:=by omega
 have z1:w.heap.size+1<w1.heap.size:=by omega
 obtain ⟨x0,x1,x2,x3,x4,p0,p1,p2,p3,u0,u1⟩:=zau bx bp bu
 have HBP:=zh bp
 have HKE:=zh (Below.one w1 (.cells #[.bool true,.bool true,.bool false,.bool true,.bool false,.bool false] 97))
 have hp2:∀X,(w1.alloc X).cell? ⟨w.heap.size+1,2,none⟩=some (.int .i64 regs):=fun X=>keepC (Below.one w1 X) p2
 have HP2:=zh hp2
 clear hb1 bx bp bu hb hp2
 go_wp2_with fail
 refine (zaj true d regs rD HrD.out (w.heap.size+1) _ (HP2.out _)).mono ?_
 rintro e' w' ⟨rfl,rfl⟩
 cases rD with
 | false=>
  obtain rfl:false=r:=HR.out
  go_wp2_with fail
  go_ret
  exact ⟨rfl,HB.out.alloc (by omega) _⟩
 | true=>
  go_wp2_with fail
  refine (zaj true a regs rA HrA.out (w.heap.size+1) _ (HP2.out _)).mono ?_
  rintro e' w' ⟨rfl,rfl⟩
  cases rA with
  | false=>
   obtain rfl:false=r:=HR.out
   go_wp2_with fail
   go_ret
   exact ⟨rfl,HB.out.alloc (by omega) _⟩
  | true=>
   go_wp2_with fail
   refine (zaj false b regs rB HrB.out (w.heap.size+1) _ (HP2.out _)).mono ?_
   rintro e' w' ⟨rfl,rfl⟩
   cases rB with
   | false=>
    obtain rfl:false=r:=HR.out
    go_wp2_with fail
    go_ret
    exact ⟨rfl,HB.out.alloc (by omega) _⟩
   | true=>
    have HC:=zh (fun X=>zax hB z0 HV.out HB.out HP2.out HrI.out X)
    go_wp2_with fail
    refine (HC.out _).mono ?_
    rintro e' w2 ⟨rfl,hb2⟩
    have HB2:=zh (Below.next (HB.out.alloc (by omega) _) hb2)
    have hs2:=hb2.size
    have y0:=keepC hb2 (keepC HKE.out x0)
    have y2:=keepC hb2 (keepC HKE.out x2)
    clear hb2 HC x0 x1 x2 x3 x4 p0 p1 p2 p3 u0 u1
    cases rI with
    | false=>
     obtain rfl:false=r:=HR.out
     go_wp2_with fail
     go_ret
     exact ⟨rfl,HB2.out⟩
    | true=>
     obtain rfl:true=r:=HR.out
     go_wp2_with fail
     go_ret
     exact ⟨rfl,HB2.out⟩
theorem zlO:FitsC 18:=by
 intro d a b l o len cap args regs rest oc oa ok op lc cc la ca lk ck lp cp B w _ha hv hB r hr
 have e:Unt.fits ⟨18,d,a,b,l⟩ regs lc lp lk=(Unt.regB true d regs&&(Unt.regB true b regs&&(l.all (Unt.below · regs)&&(Unt.below a lp)))):=by
  rw[Unt.fits,show Unt.isOp 18=true by decide,show Unt.pD 18=true by decide,show Unt.pN 18=true by decide,show Unt.pM 18=false by decide,show Unt.pB 18=true by decide,show Unt.pL 18=true by decide,show Unt.tailOk ⟨18,d,a,b,l⟩ lc lp lk=Unt.below a lp by simp[Unt.tailOk]]
  simp only[Bool.true_and,Bool.true_or,Bool.false_or]
 rw[e] at hr
 clear e
 obtain ⟨rD,hrD⟩:∃rD,(Unt.regB true d regs)=rD:=⟨_,rfl⟩
 obtain ⟨rB,hrB⟩:∃rB,(Unt.regB true b regs)=rB:=⟨_,rfl⟩
 obtain ⟨rI,hrI⟩:∃rI,(l.all (Unt.below · regs))=rI:=⟨_,rfl⟩
 obtain ⟨rT,hrT⟩:∃rT,(Unt.below a lp)=rT:=⟨_,rfl⟩
 rw[hrD,hrB,hrI,hrT] at hr
 have HrD:=zh hrD
 have HrB:=zh hrB
 have HrI:=zh hrI
 have HrT:=zh hrT
 have HR:=zh hr
 have HV:=zh hv
 obtain ⟨hlen,hcap,hmax⟩:=hv.lens
 have HL:=zh hlen
 clear hr hv hlen hrD hrB hrI hrT
 go_enter func27,ntmps27
 go_wp2_with fail
 refine (zj2 _).mono ?_
 rintro e' w1 ⟨rfl,hb1⟩
 obtain ⟨bx,bp,bu,hb⟩:=zaf hb1
 have HB:=zh hb
 have hs1:=bu.lt
 have z0:w.heap.size<w1.heap.size:=by omega
 have z1:w.heap.size+1<w1.heap.size:=by omega
 obtain ⟨x0,x1,x2,x3,x4,p0,p1,p2,p3,u0,u1⟩:=zau bx bp bu
 have HBP:=zh bp
 have HKE:=zh (Below.one w1 (.cells #[.bool true,.bool false,.bool true,.bool true,.bool true,.bool false] 97))
 have hp2:∀X,(w1.alloc X).cell? ⟨w.heap.size+1,2,none⟩=some (.int .i64 regs):=fun X=>keepC (Below.one w1 X) p2
 have HP2:=zh hp2
 clear hb1 bx bp bu hb hp2
 go_wp2_with fail
 refine (zaj true d regs rD HrD.out (w.heap.size+1) _ (HP2.out _)).mono ?_
 rintro e' w' ⟨rfl,rfl⟩
 cases rD with
 | false=>
  obtain rfl:false=r:=HR.out
  go_wp2_with fail
  go_ret
  exact ⟨rfl,HB.out.alloc (by omega) _⟩
 | true=>
  go_wp2_with fail
  refine (zaj true b regs rB HrB.out (w.heap.size+1) _ (HP2.out _)).mono ?_
  rintro e' w' ⟨rfl,rfl⟩
  cases rB with
  | false=>
   obtain rfl:false=r:=HR.out
   go_wp2_with fail
   go_ret
   exact ⟨rfl,HB.out.alloc (by omega) _⟩
  | true=>
   have HC:=zh (fun X=>zax hB z0 HV.out HB.out HP2.out HrI.out X)
   go_wp2_with fail
   refine (HC.out _).mono ?_
   rintro e' w2 ⟨rfl,hb2⟩
   have HB2:=zh (Below.next (HB.out.alloc (by omega) _) hb2)
   have hs2:=hb2.size
   have y0:=keepC hb2 (keepC HKE.out x0)
   have y2:=keepC hb2 (keepC HKE.out x2)
   have v1:=keepC hb2 (keepC HKE.out u1)
   clear hb2 HC x0 x1 x2 x3 x4 p0 p1 p2 p3 u0 u1
   cases rI with
   | false=>
    obtain rfl:false=r:=HR.out
    go_wp2_with fail
    go_ret
    exact ⟨rfl,HB2.out⟩
   | true=>
    obtain rfl:rT=r:=HR.out
    go_wp2_with fail
    refine (za6 _ _ rT HrT.out _).mono ?_
    rintro e' w' ⟨rfl,rfl⟩
    go_wp2_with fail
    go_ret
    exact ⟨rfl,HB2.out⟩
theorem zlL:FitsC 19:=by
 intro d a b l o len cap args regs rest oc oa ok op lc cc la ca lk ck lp cp B w _ha hv hB r hr
 have e:Unt.fits ⟨19,d,a,b,l⟩ regs lc lp lk=(Unt.regB false d regs&&(Unt.regB true a regs&&(Unt.regB false b regs&&(l.all (Unt.below · regs))))):=by
  rw[Unt.fits,show Unt.isOp 19=true by decide,show Unt.pD 19=false by decide,show Unt.pN 19=false by decide,show Unt.pA 19=true by decide,show Unt.pM 19=false by decide,show Unt.pB 19=false by decide,show Unt.pL 19=true by decide,show Unt.tailOk ⟨19,d,a,b,l⟩ lc lp lk=true by simp[Unt.tailOk]]
  simp only[Bool.true_and,Bool.and_true,Bool.true_or,Bool.false_or]
 rw[e] at hr
 clear e
 obtain ⟨rD,hrD⟩:∃rD,(Unt.regB false d regs)=rD:=⟨_,rfl⟩
 obtain ⟨rA,hrA⟩:∃rA,(Unt.regB true a regs)=rA:=⟨_,rfl⟩
 obtain ⟨rB,hrB⟩:∃rB,(Unt.regB false b regs)=rB:=⟨_,rfl⟩
 obtain ⟨rI,hrI⟩:∃rI,(l.all (Unt.below · regs))=rI:=⟨_,rfl⟩
 rw[hrD,hrA,hrB,hrI] at hr
 have HrD:=zh hrD
 have HrA:=zh hrA
 have HrB:=zh hrB
 have HrI:=zh hrI
 have HR:=zh hr
 have HV:=zh hv
 obtain ⟨hlen,hcap,hmax⟩:=hv.lens
 have HL:=zh hlen
 clear hr hv hlen hrD hrA hrB hrI
 go_enter func27,ntmps27
 go_wp2_with fail
 refine (zjc _).mono ?_
 rintro e' w1 ⟨rfl,hb1⟩
 obtain ⟨bx,bp,bu,hb⟩:=zaf hb1
 have HB:=zh hb
 have hs1:=bu.lt
 have z0:w.heap.size<w1.heap.size:=by omega
 have z1:w.heap.size+1<w1.heap.size:=by omega
 obtain ⟨x0,x1,x2,x3,x4,p0,p1,p2,p3,u0,u1⟩:=zau bx bp bu
 have HBP:=zh bp
 have HKE:=zh (Below.one w1 (.cells #[.bool false,.bool true,.bool false,.bool true,.bool false,.bool false] 97))
 have hp2:∀X,(w1.alloc X).cell? ⟨w.heap.size+1,2,none⟩=some (.int .i64 regs):=fun X=>keepC (Below.one w1 X) p2
 have HP2:=zh hp2
 clear hb1 bx bp bu hb hp2
 go_wp2_with fail
 refine (zaj false d regs rD HrD.out (w.heap.size+1) _ (HP2.out _)).mono ?_
 rintro e' w' ⟨rfl,rfl⟩
 cases rD with
 | false=>
  obtain rfl:false=r:=HR.out
  go_wp2_with fail
  go_ret
  exact ⟨rfl,HB.out.alloc (by omega) _⟩
 | true=>
  go_wp2_with fail
  refine (zaj true a regs rA HrA.out (w.heap.size+1) _ (HP2.out _)).mono ?_
  rintro e' w' ⟨rfl,rfl⟩
  cases rA with
  | false=>
   obtain rfl:false=r:=HR.out
   go_wp2_with fail
   go_ret
   exact ⟨rfl,HB.out.alloc (by omega) _⟩
  | true=>
   go_wp2_with fail
   refine (zaj false b regs rB HrB.out (w.heap.size+1) _ (HP2.out _)).mono ?_
   rintro e' w' ⟨rfl,rfl⟩
   cases rB with
   | false=>
    obtain rfl:false=r:=HR.out
    go_wp2_with fail
    go_ret
    exact ⟨rfl,HB.out.alloc (by omega) _⟩
   | true=>
    have HC:=zh (fun X=>zax hB z0 HV.out HB.out HP2.out HrI.out X)
    go_wp2_with fail
    refine (HC.out _).mono ?_
    rintro e' w2 ⟨rfl,hb2⟩
    have HB2:=zh (Below.next (HB.out.alloc (by omega) _) hb2)
    have hs2:=hb2.size
    have y0:=keepC hb2 (keepC HKE.out x0)
    have y2:=keepC hb2 (keepC HKE.out x2)
    clear hb2 HC x0 x1 x2 x3 x4 p0 p1 p2 p3 u0 u1
    cases rI with
    | false=>
     obtain rfl:false=r:=HR.out
     go_wp2_with fail
     go_ret
     exact ⟨rfl,HB2.out⟩
    | true=>
     obtain rfl:true=r:=HR.out
     go_wp2_with fail
     go_ret
     exact ⟨rfl,HB2.out⟩
theorem zlv:FitsC 20:=by
 intro d a b l o len cap args regs rest oc oa ok op lc cc la ca lk ck lp cp B w _ha hv hB r hr
 have e:Unt.fits ⟨20,d,a,b,l⟩ regs lc lp lk=(Unt.regB false d regs&&(Unt.regB true b regs&&(l.all (Unt.below · regs)&&(Unt.below a lp)))):=by
  rw[Unt.fits,show Unt.isOp 20=true by decide,show Unt.pD 20=false by decide,show Unt.pN 20=true by decide,show Unt.pM 20=false by decide,show Unt.pB 20=true by decide,show Unt.pL 20=true by decide,show Unt.tailOk ⟨20,d,a,b,l⟩ lc lp lk=Unt.below a lp by simp[Unt.tailOk]]
  simp only[Bool.true_and,Bool.true_or,Bool.false_or]
 rw[e] at hr
 clear e
 obtain ⟨rD,hrD⟩:∃rD,(Unt.regB false d regs)=rD:=⟨_,rfl⟩
 obtain ⟨rB,hrB⟩:∃rB,(Unt.regB true b regs)=rB:=⟨_,rfl⟩
 obtain ⟨rI,hrI⟩:∃rI,(l.all (Unt.below · regs))=rI:=⟨_,rfl⟩
 obtain ⟨rT,hrT⟩:∃rT,(Unt.below a lp)=rT:=⟨_,rfl⟩
 rw[hrD,hrB,hrI,hrT] at hr
 have HrD:=zh hrD
 have HrB:=zh hrB
 have HrI:=zh hrI
 have HrT:=zh hrT
 have HR:=zh hr
 have HV:=zh hv
 obtain ⟨hlen,hcap,hmax⟩:=hv.lens
 have HL:=zh hlen
 clear hr hv hlen hrD hrB hrI hrT
 go_enter func27,ntmps27
 go_wp2_with fail
 refine (zjE _).mono ?_
 rintro e' w1 ⟨rfl,hb1⟩
 obtain ⟨bx,bp,bu,hb⟩:=zaf hb1
 have HB:=zh hb
 have hs1:=bu.lt
 have z0:w.heap.size<w1.heap.size:=by omega
 have z1:w.heap.size+1<w1.heap.size:=by omega
 obtain ⟨x0,x1,x2,x3,x4,p0,p1,p2,p3,u0,u1⟩:=zau bx bp bu
 have HBP:=zh bp
 have HKE:=zh (Below.one w1 (.cells #[.bool false,.bool false,.bool true,.bool true,.bool true,.bool false] 97))
 have hp2:∀X,(w1.alloc X).cell? ⟨w.heap.size+1,2,none⟩=some (.int .i64 regs):=fun X=>keepC (Below.one w1 X) p2
 have HP2:=zh hp2
 clear hb1 bx bp bu hb hp2
 go_wp2_with fail
 refine (zaj false d regs rD HrD.out (w.heap.size+1) _ (HP2.out _)).mono ?_
 rintro e' w' ⟨rfl,rfl⟩
 cases rD with
 | false=>
  obtain rfl:false=r:=HR.out
  go_wp2_with fail
  go_ret
  exact ⟨rfl,HB.out.alloc (by omega) _⟩
 | true=>
  go_wp2_with fail
  refine (zaj true b regs rB HrB.out (w.heap.size+1) _ (HP2.out _)).mono ?_
  rintro e' w' ⟨rfl,rfl⟩
  cases rB with
  | false=>
   obtain rfl:false=r:=HR.out
   go_wp2_with fail
   go_ret
   exact ⟨rfl,HB.out.alloc (by omega) _⟩
  | true=>
   have HC:=zh (fun X=>zax hB z0 HV.out HB.out HP2.out HrI.out X)
   go_wp2_with fail
   refine (HC.out _).mono ?_
   rintro e' w2 ⟨rfl,hb2⟩
   have HB2:=zh (Below.next (HB.out.alloc (by omega) _) hb2)
   have hs2:=hb2.size
   have y0:=keepC hb2 (keepC HKE.out x0)
   have y2:=keepC hb2 (keepC HKE.out x2)
   have v1:=keepC hb2 (keepC HKE.out u1)
   clear hb2 HC x0 x1 x2 x3 x4 p0 p1 p2 p3 u0 u1
   cases rI with
   | false=>
    obtain rfl:false=r:=HR.out
    go_wp2_with fail
    go_ret
    exact ⟨rfl,HB2.out⟩
   | true=>
    obtain rfl:rT=r:=HR.out
    go_wp2_with fail
    refine (za6 _ _ rT HrT.out _).mono ?_
    rintro e' w' ⟨rfl,rfl⟩
    go_wp2_with fail
    go_ret
    exact ⟨rfl,HB2.out⟩
theorem zla:FitsC 21:=by
 intro d a b l o len cap args regs rest oc oa ok op lc cc la ca lk ck lp cp B w _ha hv hB r hr
 have e:Unt.fits ⟨21,d,a,b,l⟩ regs lc lp lk=(Unt.regB false d regs&&(Unt.regB false b regs&&(l.all (Unt.below · regs)&&((decide (a=29) || decide (a=30)))))):=by
  rw[Unt.fits,show Unt.isOp 21=true by decide,show Unt.pD 21=false by decide,show Unt.pN 21=true by decide,show Unt.pM 21=false by decide,show Unt.pB 21=false by decide,show Unt.pL 21=true by decide,show Unt.tailOk ⟨21,d,a,b,l⟩ lc lp lk=(decide (a=29) || decide (a=30)) by simp[Unt.tailOk]]
  simp only[Bool.true_and,Bool.true_or,Bool.false_or]
 rw[e] at hr
 clear e
 obtain ⟨rD,hrD⟩:∃rD,(Unt.regB false d regs)=rD:=⟨_,rfl⟩
 obtain ⟨rB,hrB⟩:∃rB,(Unt.regB false b regs)=rB:=⟨_,rfl⟩
 obtain ⟨rI,hrI⟩:∃rI,(l.all (Unt.below · regs))=rI:=⟨_,rfl⟩
 obtain ⟨rT,hrT⟩:∃rT,((decide (a=29) || decide (a=30)))=rT:=⟨_,rfl⟩
 rw[hrD,hrB,hrI,hrT] at hr
 have HrD:=zh hrD
 have HrB:=zh hrB
 have HrI:=zh hrI
 have HrT:=zh hrT
 have HR:=zh hr
 have HV:=zh hv
 obtain ⟨hlen,hcap,hmax⟩:=hv.lens
 have HL:=zh hlen
 clear hr hv hlen hrD hrB hrI hrT
 go_enter func27,ntmps27
 go_wp2_with fail
 refine (zi9 _).mono ?_
 rintro e' w1 ⟨rfl,hb1⟩
 obtain ⟨bx,bp,bu,hb⟩:=zaf hb1
 have HB:=zh hb
 have hs1:=bu.lt
 have z0:w.heap.size<w1.heap.size:=by omega
 have z1:w.heap.size+1<w1.heap.size:=by omega
 obtain ⟨x0,x1,x2,x3,x4,p0,p1,p2,p3,u0,u1⟩:=zau bx bp bu
 have HBP:=zh bp
 have HKE:=zh (Below.one w1 (.cells #[.bool false,.bool false,.bool false,.bool true,.bool true,.bool false] 97))
 have hp2:∀X,(w1.alloc X).cell? ⟨w.heap.size+1,2,none⟩=some (.int .i64 regs):=fun X=>keepC (Below.one w1 X) p2
 have HP2:=zh hp2
 clear hb1 bx bp bu hb hp2
 go_wp2_with fail
 refine (zaj false d regs rD HrD.out (w.heap.size+1) _ (HP2.out _)).mono ?_
 rintro e' w' ⟨rfl,rfl⟩
 cases rD with
 | false=>
  obtain rfl:false=r:=HR.out
  go_wp2_with fail
  go_ret
  exact ⟨rfl,HB.out.alloc (by omega) _⟩
 | true=>
  go_wp2_with fail
  refine (zaj false b regs rB HrB.out (w.heap.size+1) _ (HP2.out _)).mono ?_
  rintro e' w' ⟨rfl,rfl⟩
  cases rB with
  | false=>
   obtain rfl:false=r:=HR.out
   go_wp2_with fail
   go_ret
   exact ⟨rfl,HB.out.alloc (by omega) _⟩
  | true=>
   have HC:=zh (fun X=>zax hB z0 HV.out HB.out HP2.out HrI.out X)
   go_wp2_with fail
   refine (HC.out _).mono ?_
   rintro e' w2 ⟨rfl,hb2⟩
   have HB2:=zh (Below.next (HB.out.alloc (by omega) _) hb2)
   have hs2:=hb2.size
   have y0:=keepC hb2 (keepC HKE.out x0)
   have y2:=keepC hb2 (keepC HKE.out x2)
   clear hb2 HC x0 x1 x2 x3 x4 p0 p1 p2 p3 u0 u1
   cases rI with
   | false=>
    obtain rfl:false=r:=HR.out
    go_wp2_with fail
    go_ret
    exact ⟨rfl,HB2.out⟩
   | true=>
    by_cases h29:a=29
    ·subst h29
     obtain rfl:true=r:=by rw[←HR.out,←HrT.out];rfl
     go_wp2_with fail
     go_ret
     exact ⟨rfl,HB2.out⟩
    ·have h29':(a==29)=false:=by simpa using h29
     by_cases h30:a=30
     ·subst h30
      obtain rfl:true=r:=by rw[←HR.out,←HrT.out];rfl
      go_wp2_with fail
      go_ret
      exact ⟨rfl,HB2.out⟩
     ·have h30':(a==30)=false:=by simpa using h30
      obtain rfl:false=r:=by rw[←HR.out,←HrT.out];simp[h29,h30]
      go_wp2_with fail
      go_ret
      exact ⟨rfl,HB2.out⟩
theorem zk1:FitsC 22:=by
 intro d a b l o len cap args regs rest oc oa ok op lc cc la ca lk ck lp cp B w _ha hv hB r hr
 have e:Unt.fits ⟨22,d,a,b,l⟩ regs lc lp lk=(Unt.regB false d regs&&(Unt.regB true a regs&&(Unt.regB false b regs&&(decide (l.length≤0)&&(l.all (Unt.below · regs)))))):=by
  rw[Unt.fits,show Unt.isOp 22=true by decide,show Unt.pD 22=false by decide,show Unt.pN 22=false by decide,show Unt.pA 22=true by decide,show Unt.pM 22=false by decide,show Unt.pB 22=false by decide,show Unt.pL 22=false by decide,show Unt.tailOk ⟨22,d,a,b,l⟩ lc lp lk=true by simp[Unt.tailOk]]
  simp only[Bool.true_and,Bool.and_true,Bool.false_or]
 rw[e] at hr
 clear e
 obtain ⟨rD,hrD⟩:∃rD,(Unt.regB false d regs)=rD:=⟨_,rfl⟩
 obtain ⟨rA,hrA⟩:∃rA,(Unt.regB true a regs)=rA:=⟨_,rfl⟩
 obtain ⟨rB,hrB⟩:∃rB,(Unt.regB false b regs)=rB:=⟨_,rfl⟩
 obtain ⟨rL,hrL⟩:∃rL,(decide (l.length≤0))=rL:=⟨_,rfl⟩
 obtain ⟨rI,hrI⟩:∃rI,(l.all (Unt.below · regs))=rI:=⟨_,rfl⟩
 rw[hrD,hrA,hrB,hrL,hrI] at hr
 have HrD:=zh hrD
 have HrA:=zh hrA
 have HrB:=zh hrB
 have HrL:=zh hrL
 have HrI:=zh hrI
 have HR:=zh hr
 have HV:=zh hv
 obtain ⟨hlen,hcap,hmax⟩:=hv.lens
 have HL:=zh hlen
 clear hr hv hlen hrD hrA hrB hrL hrI
 go_enter func27,ntmps27
 go_wp2_with fail
 refine (ziU _).mono ?_
 rintro e' w1 ⟨rfl,hb1⟩
 obtain ⟨bx,bp,bu,hb⟩:=zaf hb1
 have HB:=zh hb
 have hs1:=bu.lt
 have z0:w.heap.size<w1.heap.size:=by omega
 have z1:w.heap.size+1<w1.heap.size:=by omega
 obtain ⟨x0,x1,x2,x3,x4,p0,p1,p2,p3,u0,u1⟩:=zau bx bp bu
 have HBP:=zh bp
 have HKE:=zh (Below.one w1 (.cells #[.bool false,.bool true,.bool false,.bool false,.bool false,.bool false] 97))
 have hp2:∀X,(w1.alloc X).cell? ⟨w.heap.size+1,2,none⟩=some (.int .i64 regs):=fun X=>keepC (Below.one w1 X) p2
 have HP2:=zh hp2
 clear hb1 bx bp bu hb hp2
 go_wp2_with fail
 refine (zaj false d regs rD HrD.out (w.heap.size+1) _ (HP2.out _)).mono ?_
 rintro e' w' ⟨rfl,rfl⟩
 cases rD with
 | false=>
  obtain rfl:false=r:=HR.out
  go_wp2_with fail
  go_ret
  exact ⟨rfl,HB.out.alloc (by omega) _⟩
 | true=>
  go_wp2_with fail
  refine (zaj true a regs rA HrA.out (w.heap.size+1) _ (HP2.out _)).mono ?_
  rintro e' w' ⟨rfl,rfl⟩
  cases rA with
  | false=>
   obtain rfl:false=r:=HR.out
   go_wp2_with fail
   go_ret
   exact ⟨rfl,HB.out.alloc (by omega) _⟩
  | true=>
   go_wp2_with fail
   refine (zaj false b regs rB HrB.out (w.heap.size+1) _ (HP2.out _)).mono ?_
   rintro e' w' ⟨rfl,rfl⟩
   cases rB with
   | false=>
    obtain rfl:false=r:=HR.out
    go_wp2_with fail
    go_ret
    exact ⟨rfl,HB.out.alloc (by omega) _⟩
   | true=>
    cases rL with
    | false=>
     have hpos:0<len:=by have h1:=of_decide_eq_false HrL.out;have h2:=HL.out;omega
     obtain rfl:false=r:=HR.out
     go_wp2_with fail
     go_ret
     exact ⟨rfl,HB.out.alloc (by omega) _⟩
    | true=>
     have hzero:len=0:=by have h1:=of_decide_eq_true HrL.out;have h2:=HL.out;omega
     have hz2:¬0<len:=by omega
     clear hzero
     have HC:=zh (fun X=>zax hB z0 HV.out HB.out HP2.out HrI.out X)
     go_wp2_with fail
     refine (HC.out _).mono ?_
     rintro e' w2 ⟨rfl,hb2⟩
     have HB2:=zh (Below.next (HB.out.alloc (by omega) _) hb2)
     have hs2:=hb2.size
     have y0:=keepC hb2 (keepC HKE.out x0)
     have y2:=keepC hb2 (keepC HKE.out x2)
     clear hb2 HC x0 x1 x2 x3 x4 p0 p1 p2 p3 u0 u1
     cases rI with
     | false=>
      obtain rfl:false=r:=HR.out
      go_wp2_with fail
      go_ret
      exact ⟨rfl,HB2.out⟩
     | true=>
      obtain rfl:true=r:=HR.out
      go_wp2_with fail
      go_ret
      exact ⟨rfl,HB2.out⟩
theorem zk3 (k:Int) (hk:k<0∨22<k) (d a b:Int) (l:List Int) (o:Option Addr) (len cap:Nat) (args regs:Int) (rest:Bool) (oc oa ok op:Option Addr) (lc cc la ca lk ck lp cp:Nat) (B:Nat) (w:World) (_ha:-9223372036854775808≤a∧a≤9223372036854775807) (_hv:SlC w B 1 IntR l (.slice o len cap)) (_hB:B≤w.heap.size) (r:Bool) (hr:Unt.fits ⟨k,d,a,b,l⟩ regs lc lp lk=r) :
  Calls prog 27 #[.agg #[.int .i64 k,.int .i64 d,.int .i64 a,.int .i64 b,.slice o len cap],.agg #[.int .i64 args,.bool rest,.int .i64 regs,.slice oc lc cc,.slice oa la ca],.agg #[.slice ok lk ck,.slice op lp cp]] w fun e w'=>e=.returned (.bool r)∧Below w.heap.size w w':=by
 obtain rfl:false=r:=by
  rw[←hr,Unt.fits,show Unt.isOp k=false from by simp[Unt.isOp];omega];rfl
 have HK:=zh hk
 clear hr hk
 go_enter func27,ntmps27
 go_wp2_with fail
 refine (ziQ k HK.out _).mono ?_
 rintro e' w1 ⟨rfl,hb1⟩
 obtain ⟨bx,bp,bu,hb⟩:=zaf hb1
 have HB:=zh hb
 have hs1:=bu.lt
 clear hb1 bx bp bu hb
 go_wp2_with fail
 go_ret
 exact ⟨rfl,HB.out.alloc (by omega) _⟩
end
section
open Go.RowKit
theorem ze2:(prog.info? 49).map (fun i=>(i.zero,i.size,i.bytes))=some (some (.agg #[.int .i64 0,.int .i64 0,.int .i64 0,.int .i64 0,.slice none 0 0]),5,56):=by kernel_rfl
theorem zam {W W':World} {base n size:Nat} {e:TypeId} {v:Value} {xs:List Value} (h:W.ownsRow base e size v n xs) (hb:Below W.heap.size W W'):W'.ownsRow base e size v n xs:=
 h.kept (row:=none) ⟨hb.os,hb.tape,hb.output,hb.size,fun k hk _=>hb.block k hk⟩ (by cases h:v.ownBlock with
  | none=>exact .inl rfl
  | some _=>exact .inr (by simp))
theorem SlC.cells {α:Type} {w w':World} {B size:Nat} {R R':α→List Value→Prop} {l:List α} {v:Value} (h:SlC w B size R l v) (hk:∀b o u,w.cell? ⟨b,o,none⟩=some u→w'.cell? ⟨b,o,none⟩=some u) (hR:∀x∈l,∀cs,R x cs→R' x cs):SlC w' B size R' l v:=by
 obtain ⟨o,len,cap,rfl,h1,h2,h3,h4⟩:=h
 refine ⟨o,len,cap,rfl,h1,h2,h3,?_⟩
 cases o with
 | none=>exact h4
 | some a=>
  refine ⟨h4.1,fun i x hx=>?_⟩
  obtain ⟨cs,hl,hc,hr⟩:=h4.2 i x hx
  exact ⟨cs,hl,fun j u hu=>hk _ _ _ (hc j u hu),hR x (List.mem_of_getElem? hx) cs hr⟩
theorem InsR.cells {w w':World} {B:Nat} {x:Ins} {cs:List Value} (h:InsR w B x cs) (hk:∀b o u,w.cell? ⟨b,o,none⟩=some u→w'.cell? ⟨b,o,none⟩=some u):InsR w' B x cs:=by
 obtain ⟨sl,h0,h1,h2,h3,h4,h5⟩:=h
 exact ⟨sl,h0,h1,h2,h3,h4,h5.cells hk fun _ _ _ h=>h⟩
theorem zjp {W:World} {lo hi c:Nat} (h:¬(lo≤c∧c<hi)):(gap W lo hi).heap[c]?=W.heap[c]?:=by
 simp only[gap,Array.getElem?_mapIdx]
 simp only[if_neg h,Option.map_id_fun',id]
theorem zcv (W:World) (lo hi:Nat):(gap W lo hi).heap.size=W.heap.size:=by simp[gap]
theorem zbL {W:World} {base n size lo hi:Nat} {e:TypeId} {v:Value} {xs:List Value} (h:W.ownsRow base e size v n xs) (hb:hi≤base):(gap W lo hi).ownsRow base e size v n xs:=by
 refine ⟨h.1,?_⟩
 rcases h.2 with h' | ⟨g,cap,cur,h1,h2,h3,h4⟩
 ·exact .inl h'
 ·exact .inr ⟨g,cap,cur,h1,h2,by rw[zjp (by omega)];exact h3,h4⟩
end
section
open Go.RowKit
def zad (x:Ins) (w:World) (e:Ending) (w':World):Prop:=∃sl,e=.returned (.tuple #[sl,.int .i64 (Unt.gives x)])∧SlC w' w'.heap.size 1 IntR (Unt.named x) sl∧Below w.heap.size w w'
theorem intsNew {W:World} {b B:Nat} (hb:b=W.heap.size) (hB:b<B) (t:TypeId) (l:List Int) (hl:∀x∈l,I64 x) (n:Nat) (hn:n=l.length) (hm:n≤1000000):SlC (W.alloc (.cells (l.map (Value.int .i64)).toArray t)) B 1 IntR l (.slice (some ⟨b,0,none⟩) n n):=by
 subst hb
 refine ⟨_,n,n,rfl,hn,Nat.le_refl _,by omega,fun _=>⟨rfl,hB⟩,fun i x hx=>⟨[.int .i64 x],rfl,fun j u hj=>?_,rfl,hl x (List.mem_of_getElem? hx)⟩⟩
 match j,hj with
 | 0,hj=>
  simp only[List.getElem?_cons_zero,Option.some.injEq] at hj
  subst hj
  have h1:(l.map (Value.int .i64)).toArray[i]?=some (.int .i64 x):=by simp[hx]
  simpa using zbf W _ t i h1
theorem zlt (d a b:Int) (l:List Int) (o:Option Addr) (len cap:Nat) (B:Nat) (w:World) (ha:I64 a) (hb:I64 b) (hv:SlC w B 1 IntR l (.slice o len cap)) (_hB:B≤w.heap.size) (hmx:l.length≤1000000) :
  Calls prog 84 #[.agg #[.int .i64 0,.int .i64 d,.int .i64 a,.int .i64 b,.slice o len cap]] w (zad ⟨0,d,a,b,l⟩ w):=by
 have HG:Unt.gives ⟨0,d,a,b,l⟩=d:=by simp[Unt.gives]
 have HN:Unt.named ⟨0,d,a,b,l⟩=[]:=by simp[Unt.named]
 unfold zad
 rw[HG,HN]
 have HV:=zh hv
 have HA:=zh ha
 have HB:=zh hb
 obtain ⟨hlen,hcap,hmax⟩:=hv.lens
 have HL:=zh hlen
 have hmx':len≤1000000:=by omega
 clear HG HN hv ha hb hlen
 go_enter func84,ntmps84
 go_wp2_with fail
 go_ret2
 exact ⟨_,rfl,⟨none,0,0,rfl,rfl,by omega,by omega,rfl,rfl⟩,Below.one _ _⟩
theorem zld (d a b:Int) (l:List Int) (o:Option Addr) (len cap:Nat) (B:Nat) (w:World) (ha:I64 a) (hb:I64 b) (hv:SlC w B 1 IntR l (.slice o len cap)) (_hB:B≤w.heap.size) (hmx:l.length≤1000000) :
  Calls prog 84 #[.agg #[.int .i64 1,.int .i64 d,.int .i64 a,.int .i64 b,.slice o len cap]] w (zad ⟨1,d,a,b,l⟩ w):=by
 have HG:Unt.gives ⟨1,d,a,b,l⟩=d:=by simp[Unt.gives]
 have HN:Unt.named ⟨1,d,a,b,l⟩=[a]:=by simp[Unt.named]
 unfold zad
 rw[HG,HN]
 have HV:=zh hv
 have HA:=zh ha
 have HB:=zh hb
 obtain ⟨hlen,hcap,hmax⟩:=hv.lens
 have HL:=zh hlen
 have hmx':len≤1000000:=by omega
 clear HG HN hv ha hb hlen
 go_enter func84,ntmps84
 go_wp2_with fail
 go_ret2
 exact ⟨_,rfl,intsNew (B:=((w.alloc (.cells #[.int .i64 1,.int .i64 d,.int .i64 a,.int .i64 b,.slice o len cap] 49)).alloc (.cells #[.int .i64 a] 3)).heap.size) (by simp) (by simp) 3 [a] (by simp[HA.out]) 1 rfl (by omega),(Below.one _ _).trans ((Below.one _ _).mono (by simp))⟩
theorem zlR (d a b:Int) (l:List Int) (o:Option Addr) (len cap:Nat) (B:Nat) (w:World) (ha:I64 a) (hb:I64 b) (hv:SlC w B 1 IntR l (.slice o len cap)) (_hB:B≤w.heap.size) (hmx:l.length≤1000000) :
  Calls prog 84 #[.agg #[.int .i64 2,.int .i64 d,.int .i64 a,.int .i64 b,.slice o len cap]] w (zad ⟨2,d,a,b,l⟩ w):=by
 have HG:Unt.gives ⟨2,d,a,b,l⟩=d:=by simp[Unt.gives]
 have HN:Unt.named ⟨2,d,a,b,l⟩=[]:=by simp[Unt.named]
 unfold zad
 rw[HG,HN]
 have HV:=zh hv
 have HA:=zh ha
 have HB:=zh hb
 obtain ⟨hlen,hcap,hmax⟩:=hv.lens
 have HL:=zh hlen
 have hmx':len≤1000000:=by omega
 clear HG HN hv ha hb hlen
 go_enter func84,ntmps84
 go_wp2_with fail
 go_ret2
 exact ⟨_,rfl,⟨none,0,0,rfl,rfl,by omega,by omega,rfl,rfl⟩,Below.one _ _⟩
theorem zkT (d a b:Int) (l:List Int) (o:Option Addr) (len cap:Nat) (B:Nat) (w:World) (ha:I64 a) (hb:I64 b) (hv:SlC w B 1 IntR l (.slice o len cap)) (_hB:B≤w.heap.size) (hmx:l.length≤1000000) :
  Calls prog 84 #[.agg #[.int .i64 3,.int .i64 d,.int .i64 a,.int .i64 b,.slice o len cap]] w (zad ⟨3,d,a,b,l⟩ w):=by
 have HG:Unt.gives ⟨3,d,a,b,l⟩=d:=by simp[Unt.gives]
 have HN:Unt.named ⟨3,d,a,b,l⟩=[]:=by simp[Unt.named]
 unfold zad
 rw[HG,HN]
 have HV:=zh hv
 have HA:=zh ha
 have HB:=zh hb
 obtain ⟨hlen,hcap,hmax⟩:=hv.lens
 have HL:=zh hlen
 have hmx':len≤1000000:=by omega
 clear HG HN hv ha hb hlen
 go_enter func84,ntmps84
 go_wp2_with fail
 go_ret2
 exact ⟨_,rfl,⟨none,0,0,rfl,rfl,by omega,by omega,rfl,rfl⟩,Below.one _ _⟩
theorem zlD (d a b:Int) (l:List Int) (o:Option Addr) (len cap:Nat) (B:Nat) (w:World) (ha:I64 a) (hb:I64 b) (hv:SlC w B 1 IntR l (.slice o len cap)) (_hB:B≤w.heap.size) (hmx:l.length≤1000000) :
  Calls prog 84 #[.agg #[.int .i64 4,.int .i64 d,.int .i64 a,.int .i64 b,.slice o len cap]] w (zad ⟨4,d,a,b,l⟩ w):=by
 have HG:Unt.gives ⟨4,d,a,b,l⟩=d:=by simp[Unt.gives]
 have HN:Unt.named ⟨4,d,a,b,l⟩=[]:=by simp[Unt.named]
 unfold zad
 rw[HG,HN]
 have HV:=zh hv
 have HA:=zh ha
 have HB:=zh hb
 obtain ⟨hlen,hcap,hmax⟩:=hv.lens
 have HL:=zh hlen
 have hmx':len≤1000000:=by omega
 clear HG HN hv ha hb hlen
 go_enter func84,ntmps84
 go_wp2_with fail
 go_ret2
 exact ⟨_,rfl,⟨none,0,0,rfl,rfl,by omega,by omega,rfl,rfl⟩,Below.one _ _⟩
theorem zly (d a b:Int) (l:List Int) (o:Option Addr) (len cap:Nat) (B:Nat) (w:World) (ha:I64 a) (hb:I64 b) (hv:SlC w B 1 IntR l (.slice o len cap)) (_hB:B≤w.heap.size) (hmx:l.length≤1000000) :
  Calls prog 84 #[.agg #[.int .i64 5,.int .i64 d,.int .i64 a,.int .i64 b,.slice o len cap]] w (zad ⟨5,d,a,b,l⟩ w):=by
 have HG:Unt.gives ⟨5,d,a,b,l⟩=d:=by simp[Unt.gives]
 have HN:Unt.named ⟨5,d,a,b,l⟩=[]:=by simp[Unt.named]
 unfold zad
 rw[HG,HN]
 have HV:=zh hv
 have HA:=zh ha
 have HB:=zh hb
 obtain ⟨hlen,hcap,hmax⟩:=hv.lens
 have HL:=zh hlen
 have hmx':len≤1000000:=by omega
 clear HG HN hv ha hb hlen
 go_enter func84,ntmps84
 go_wp2_with fail
 go_ret2
 exact ⟨_,rfl,⟨none,0,0,rfl,rfl,by omega,by omega,rfl,rfl⟩,Below.one _ _⟩
theorem zlf (d a b:Int) (l:List Int) (o:Option Addr) (len cap:Nat) (B:Nat) (w:World) (ha:I64 a) (hb:I64 b) (hv:SlC w B 1 IntR l (.slice o len cap)) (_hB:B≤w.heap.size) (hmx:l.length≤1000000) :
  Calls prog 84 #[.agg #[.int .i64 6,.int .i64 d,.int .i64 a,.int .i64 b,.slice o len cap]] w (zad ⟨6,d,a,b,l⟩ w):=by
 have HG:Unt.gives ⟨6,d,a,b,l⟩=d:=by simp[Unt.gives]
 have HN:Unt.named ⟨6,d,a,b,l⟩=[]:=by simp[Unt.named]
 unfold zad
 rw[HG,HN]
 have HV:=zh hv
 have HA:=zh ha
 have HB:=zh hb
 obtain ⟨hlen,hcap,hmax⟩:=hv.lens
 have HL:=zh hlen
 have hmx':len≤1000000:=by omega
 clear HG HN hv ha hb hlen
 go_enter func84,ntmps84
 go_wp2_with fail
 go_ret2
 exact ⟨_,rfl,⟨none,0,0,rfl,rfl,by omega,by omega,rfl,rfl⟩,Below.one _ _⟩
theorem zlm (d a b:Int) (l:List Int) (o:Option Addr) (len cap:Nat) (B:Nat) (w:World) (ha:I64 a) (hb:I64 b) (hv:SlC w B 1 IntR l (.slice o len cap)) (hB:B≤w.heap.size) (hmx:l.length≤1000000) :
  Calls prog 84 #[.agg #[.int .i64 7,.int .i64 d,.int .i64 a,.int .i64 b,.slice o len cap]] w (zad ⟨7,d,a,b,l⟩ w):=by
 have HG:Unt.gives ⟨7,d,a,b,l⟩=d:=by simp[Unt.gives]
 have HN:Unt.named ⟨7,d,a,b,l⟩=l:=by simp[Unt.named]
 unfold zad
 rw[HG,HN]
 have HV:=zh hv
 have HA:=zh ha
 have HB:=zh hb
 obtain ⟨hlen,hcap,hmax⟩:=hv.lens
 have HL:=zh hlen
 have hmx':len≤1000000:=by omega
 clear HG HN hv ha hb hlen
 go_enter func84,ntmps84
 go_wp2_with fail
 go_ret2
 exact ⟨_,rfl,(HV.out.kept ((Below.one w _).mono hB) fun _ _ _ h=>h).wider (by simp;omega),Below.one _ _⟩
theorem zlc (d a b:Int) (l:List Int) (o:Option Addr) (len cap:Nat) (B:Nat) (w:World) (ha:I64 a) (hb:I64 b) (hv:SlC w B 1 IntR l (.slice o len cap)) (hB:B≤w.heap.size) (hmx:l.length≤1000000) :
  Calls prog 84 #[.agg #[.int .i64 8,.int .i64 d,.int .i64 a,.int .i64 b,.slice o len cap]] w (zad ⟨8,d,a,b,l⟩ w):=by
 have HG:Unt.gives ⟨8,d,a,b,l⟩ = -1:=by simp[Unt.gives]
 have HN:Unt.named ⟨8,d,a,b,l⟩=a::l:=by simp[Unt.named]
 unfold zad
 rw[HG,HN]
 have HV:=zh hv
 have HA:=zh ha
 have HB:=zh hb
 obtain ⟨hlen,hcap,hmax⟩:=hv.lens
 have HL:=zh hlen
 have hmx':len≤1000000:=by omega
 clear HG HN hv ha hb hlen
 go_enter func84,ntmps84
 have HO:=zh (zaN (W:=(w.alloc (.cells #[.int .i64 8,.int .i64 d,.int .i64 a,.int .i64 b,.slice o len cap] 49))) (b:=w.heap.size+1) (base:=w.heap.size) (by simp) (by omega) 3 1 1 [.int .i64 a] rfl (by unfold maxLen;omega))
 have HS:=zh (show SlC ((w.alloc (.cells #[.int .i64 8,.int .i64 d,.int .i64 a,.int .i64 b,.slice o len cap] 49)).alloc (.cells [.int .i64 a].toArray 3)) B 1 IntR l (.slice o len cap) from HV.out.kept (((Below.one w _).trans ((Below.one _ _).mono (by simp))).mono hB) fun _ _ _ h=>h)
 go_wp2_with (at_builtin;refine zaA rfl (.tmp 36) (.tmp 38) rfl w.heap.size B (.slice (some ⟨w.heap.size+1,0,none⟩) 1 1) [a] l rfl HO.out o len cap rfl HS.out (by have:=HL.out;simp;omega) (by simp;omega) ?_)
 intro v' w2 hown hgrow
 have HR:=zh hown
 have HBE:=zh (show Below w.heap.size w w2 from ((Below.one w _).trans ((Below.one _ _).mono (by simp))).grown hgrow (by simp;omega) (fun g hg=>by simp[Value.ownBlock] at hg;omega))
 have bx:BoxL w2 w.heap.size 49 [.int .i64 8,.int .i64 d,.int .i64 a,.int .i64 b,.slice o len cap]:=(hgrow.block _ (by simp;omega) (by simp[Value.ownBlock])).trans ((BoxL.new rfl _ _).alloc _)
 have x0:=bx.cell 0 rfl
 have x1:=bx.cell 1 rfl
 clear hown hgrow bx
 go_wp2_with fail
 go_ret2
 exact ⟨_,rfl,rowInts (l:=[a]++l) HR.out (by intro x hx;rcases List.mem_cons.1 hx with rfl | h;exact HA.out;exact HV.out.i64 x h),HBE.out⟩
theorem zk6 (d a b:Int) (l:List Int) (o:Option Addr) (len cap:Nat) (B:Nat) (w:World) (ha:I64 a) (hb:I64 b) (hv:SlC w B 1 IntR l (.slice o len cap)) (hB:B≤w.heap.size) (hmx:l.length≤1000000) :
  Calls prog 84 #[.agg #[.int .i64 9,.int .i64 d,.int .i64 a,.int .i64 b,.slice o len cap]] w (zad ⟨9,d,a,b,l⟩ w):=by
 have HG:Unt.gives ⟨9,d,a,b,l⟩=d:=by simp[Unt.gives]
 have HN:Unt.named ⟨9,d,a,b,l⟩=l:=by simp[Unt.named]
 unfold zad
 rw[HG,HN]
 have HV:=zh hv
 have HA:=zh ha
 have HB:=zh hb
 obtain ⟨hlen,hcap,hmax⟩:=hv.lens
 have HL:=zh hlen
 have hmx':len≤1000000:=by omega
 clear HG HN hv ha hb hlen
 go_enter func84,ntmps84
 go_wp2_with fail
 go_ret2
 exact ⟨_,rfl,(HV.out.kept ((Below.one w _).mono hB) fun _ _ _ h=>h).wider (by simp;omega),Below.one _ _⟩
theorem zj5 (d a b:Int) (l:List Int) (o:Option Addr) (len cap:Nat) (B:Nat) (w:World) (ha:I64 a) (hb:I64 b) (hv:SlC w B 1 IntR l (.slice o len cap)) (_hB:B≤w.heap.size) (hmx:l.length≤1000000) :
  Calls prog 84 #[.agg #[.int .i64 10,.int .i64 d,.int .i64 a,.int .i64 b,.slice o len cap]] w (zad ⟨10,d,a,b,l⟩ w):=by
 have HG:Unt.gives ⟨10,d,a,b,l⟩=d:=by simp[Unt.gives]
 have HN:Unt.named ⟨10,d,a,b,l⟩=[a]:=by simp[Unt.named]
 unfold zad
 rw[HG,HN]
 have HV:=zh hv
 have HA:=zh ha
 have HB:=zh hb
 obtain ⟨hlen,hcap,hmax⟩:=hv.lens
 have HL:=zh hlen
 have hmx':len≤1000000:=by omega
 clear HG HN hv ha hb hlen
 go_enter func84,ntmps84
 go_wp2_with fail
 go_ret2
 exact ⟨_,rfl,intsNew (B:=((w.alloc (.cells #[.int .i64 10,.int .i64 d,.int .i64 a,.int .i64 b,.slice o len cap] 49)).alloc (.cells #[.int .i64 a] 3)).heap.size) (by simp) (by simp) 3 [a] (by simp[HA.out]) 1 rfl (by omega),(Below.one _ _).trans ((Below.one _ _).mono (by simp))⟩
theorem zki (d a b:Int) (l:List Int) (o:Option Addr) (len cap:Nat) (B:Nat) (w:World) (ha:I64 a) (hb:I64 b) (hv:SlC w B 1 IntR l (.slice o len cap)) (_hB:B≤w.heap.size) (hmx:l.length≤1000000) :
  Calls prog 84 #[.agg #[.int .i64 11,.int .i64 d,.int .i64 a,.int .i64 b,.slice o len cap]] w (zad ⟨11,d,a,b,l⟩ w):=by
 have HG:Unt.gives ⟨11,d,a,b,l⟩=d:=by simp[Unt.gives]
 have HN:Unt.named ⟨11,d,a,b,l⟩=[a]:=by simp[Unt.named]
 unfold zad
 rw[HG,HN]
 have HV:=zh hv
 have HA:=zh ha
 have HB:=zh hb
 obtain ⟨hlen,hcap,hmax⟩:=hv.lens
 have HL:=zh hlen
 have hmx':len≤1000000:=by omega
 clear HG HN hv ha hb hlen
 go_enter func84,ntmps84
 go_wp2_with fail
 go_ret2
 exact ⟨_,rfl,intsNew (B:=((w.alloc (.cells #[.int .i64 11,.int .i64 d,.int .i64 a,.int .i64 b,.slice o len cap] 49)).alloc (.cells #[.int .i64 a] 3)).heap.size) (by simp) (by simp) 3 [a] (by simp[HA.out]) 1 rfl (by omega),(Below.one _ _).trans ((Below.one _ _).mono (by simp))⟩
theorem zjY (d a b:Int) (l:List Int) (o:Option Addr) (len cap:Nat) (B:Nat) (w:World) (ha:I64 a) (hb:I64 b) (hv:SlC w B 1 IntR l (.slice o len cap)) (_hB:B≤w.heap.size) (hmx:l.length≤1000000) :
  Calls prog 84 #[.agg #[.int .i64 12,.int .i64 d,.int .i64 a,.int .i64 b,.slice o len cap]] w (zad ⟨12,d,a,b,l⟩ w):=by
 have HG:Unt.gives ⟨12,d,a,b,l⟩ = -1:=by simp[Unt.gives]
 have HN:Unt.named ⟨12,d,a,b,l⟩=[a,b]:=by simp[Unt.named]
 unfold zad
 rw[HG,HN]
 have HV:=zh hv
 have HA:=zh ha
 have HB:=zh hb
 obtain ⟨hlen,hcap,hmax⟩:=hv.lens
 have HL:=zh hlen
 have hmx':len≤1000000:=by omega
 clear HG HN hv ha hb hlen
 go_enter func84,ntmps84
 go_wp2_with fail
 go_ret2
 exact ⟨_,rfl,intsNew (B:=((w.alloc (.cells #[.int .i64 12,.int .i64 d,.int .i64 a,.int .i64 b,.slice o len cap] 49)).alloc (.cells #[.int .i64 a,.int .i64 b] 3)).heap.size) (by simp) (by simp) 3 [a,b] (by simp[HA.out,HB.out]) 2 rfl (by omega),(Below.one _ _).trans ((Below.one _ _).mono (by simp))⟩
theorem ziJ (d a b:Int) (l:List Int) (o:Option Addr) (len cap:Nat) (B:Nat) (w:World) (ha:I64 a) (hb:I64 b) (hv:SlC w B 1 IntR l (.slice o len cap)) (_hB:B≤w.heap.size) (hmx:l.length≤1000000) :
  Calls prog 84 #[.agg #[.int .i64 13,.int .i64 d,.int .i64 a,.int .i64 b,.slice o len cap]] w (zad ⟨13,d,a,b,l⟩ w):=by
 have HG:Unt.gives ⟨13,d,a,b,l⟩ = -1:=by simp[Unt.gives]
 have HN:Unt.named ⟨13,d,a,b,l⟩=[a,b]:=by simp[Unt.named]
 unfold zad
 rw[HG,HN]
 have HV:=zh hv
 have HA:=zh ha
 have HB:=zh hb
 obtain ⟨hlen,hcap,hmax⟩:=hv.lens
 have HL:=zh hlen
 have hmx':len≤1000000:=by omega
 clear HG HN hv ha hb hlen
 go_enter func84,ntmps84
 go_wp2_with fail
 go_ret2
 exact ⟨_,rfl,intsNew (B:=((w.alloc (.cells #[.int .i64 13,.int .i64 d,.int .i64 a,.int .i64 b,.slice o len cap] 49)).alloc (.cells #[.int .i64 a,.int .i64 b] 3)).heap.size) (by simp) (by simp) 3 [a,b] (by simp[HA.out,HB.out]) 2 rfl (by omega),(Below.one _ _).trans ((Below.one _ _).mono (by simp))⟩
theorem zkv (d a b:Int) (l:List Int) (o:Option Addr) (len cap:Nat) (B:Nat) (w:World) (ha:I64 a) (hb:I64 b) (hv:SlC w B 1 IntR l (.slice o len cap)) (_hB:B≤w.heap.size) (hmx:l.length≤1000000) :
  Calls prog 84 #[.agg #[.int .i64 14,.int .i64 d,.int .i64 a,.int .i64 b,.slice o len cap]] w (zad ⟨14,d,a,b,l⟩ w):=by
 have HG:Unt.gives ⟨14,d,a,b,l⟩=d:=by simp[Unt.gives]
 have HN:Unt.named ⟨14,d,a,b,l⟩=[a]:=by simp[Unt.named]
 unfold zad
 rw[HG,HN]
 have HV:=zh hv
 have HA:=zh ha
 have HB:=zh hb
 obtain ⟨hlen,hcap,hmax⟩:=hv.lens
 have HL:=zh hlen
 have hmx':len≤1000000:=by omega
 clear HG HN hv ha hb hlen
 go_enter func84,ntmps84
 go_wp2_with fail
 go_ret2
 exact ⟨_,rfl,intsNew (B:=((w.alloc (.cells #[.int .i64 14,.int .i64 d,.int .i64 a,.int .i64 b,.slice o len cap] 49)).alloc (.cells #[.int .i64 a] 3)).heap.size) (by simp) (by simp) 3 [a] (by simp[HA.out]) 1 rfl (by omega),(Below.one _ _).trans ((Below.one _ _).mono (by simp))⟩
theorem ziV (d a b:Int) (l:List Int) (o:Option Addr) (len cap:Nat) (B:Nat) (w:World) (ha:I64 a) (hb:I64 b) (hv:SlC w B 1 IntR l (.slice o len cap)) (_hB:B≤w.heap.size) (hmx:l.length≤1000000) :
  Calls prog 84 #[.agg #[.int .i64 15,.int .i64 d,.int .i64 a,.int .i64 b,.slice o len cap]] w (zad ⟨15,d,a,b,l⟩ w):=by
 have HG:Unt.gives ⟨15,d,a,b,l⟩ = -1:=by simp[Unt.gives]
 have HN:Unt.named ⟨15,d,a,b,l⟩=[]:=by simp[Unt.named]
 unfold zad
 rw[HG,HN]
 have HV:=zh hv
 have HA:=zh ha
 have HB:=zh hb
 obtain ⟨hlen,hcap,hmax⟩:=hv.lens
 have HL:=zh hlen
 have hmx':len≤1000000:=by omega
 clear HG HN hv ha hb hlen
 go_enter func84,ntmps84
 go_wp2_with fail
 go_ret2
 exact ⟨_,rfl,⟨none,0,0,rfl,rfl,by omega,by omega,rfl,rfl⟩,Below.one _ _⟩
theorem zj1 (d a b:Int) (l:List Int) (o:Option Addr) (len cap:Nat) (B:Nat) (w:World) (ha:I64 a) (hb:I64 b) (hv:SlC w B 1 IntR l (.slice o len cap)) (_hB:B≤w.heap.size) (hmx:l.length≤1000000) :
  Calls prog 84 #[.agg #[.int .i64 16,.int .i64 d,.int .i64 a,.int .i64 b,.slice o len cap]] w (zad ⟨16,d,a,b,l⟩ w):=by
 have HG:Unt.gives ⟨16,d,a,b,l⟩ = -1:=by simp[Unt.gives]
 have HN:Unt.named ⟨16,d,a,b,l⟩=[a]:=by simp[Unt.named]
 unfold zad
 rw[HG,HN]
 have HV:=zh hv
 have HA:=zh ha
 have HB:=zh hb
 obtain ⟨hlen,hcap,hmax⟩:=hv.lens
 have HL:=zh hlen
 have hmx':len≤1000000:=by omega
 clear HG HN hv ha hb hlen
 go_enter func84,ntmps84
 go_wp2_with fail
 go_ret2
 exact ⟨_,rfl,intsNew (B:=((w.alloc (.cells #[.int .i64 16,.int .i64 d,.int .i64 a,.int .i64 b,.slice o len cap] 49)).alloc (.cells #[.int .i64 a] 3)).heap.size) (by simp) (by simp) 3 [a] (by simp[HA.out]) 1 rfl (by omega),(Below.one _ _).trans ((Below.one _ _).mono (by simp))⟩
theorem zjb (d a b:Int) (l:List Int) (o:Option Addr) (len cap:Nat) (B:Nat) (w:World) (ha:I64 a) (hb:I64 b) (hv:SlC w B 1 IntR l (.slice o len cap)) (hB:B≤w.heap.size) (hmx:l.length≤1000000) :
  Calls prog 84 #[.agg #[.int .i64 17,.int .i64 d,.int .i64 a,.int .i64 b,.slice o len cap]] w (zad ⟨17,d,a,b,l⟩ w):=by
 have HG:Unt.gives ⟨17,d,a,b,l⟩=d:=by simp[Unt.gives]
 have HN:Unt.named ⟨17,d,a,b,l⟩=a::l:=by simp[Unt.named]
 unfold zad
 rw[HG,HN]
 have HV:=zh hv
 have HA:=zh ha
 have HB:=zh hb
 obtain ⟨hlen,hcap,hmax⟩:=hv.lens
 have HL:=zh hlen
 have hmx':len≤1000000:=by omega
 clear HG HN hv ha hb hlen
 go_enter func84,ntmps84
 have HO:=zh (zaN (W:=(w.alloc (.cells #[.int .i64 17,.int .i64 d,.int .i64 a,.int .i64 b,.slice o len cap] 49))) (b:=w.heap.size+1) (base:=w.heap.size) (by simp) (by omega) 3 1 1 [.int .i64 a] rfl (by unfold maxLen;omega))
 have HS:=zh (show SlC ((w.alloc (.cells #[.int .i64 17,.int .i64 d,.int .i64 a,.int .i64 b,.slice o len cap] 49)).alloc (.cells [.int .i64 a].toArray 3)) B 1 IntR l (.slice o len cap) from HV.out.kept (((Below.one w _).trans ((Below.one _ _).mono (by simp))).mono hB) fun _ _ _ h=>h)
 go_wp2_with (at_builtin;refine zaA rfl (.tmp 36) (.tmp 38) rfl w.heap.size B (.slice (some ⟨w.heap.size+1,0,none⟩) 1 1) [a] l rfl HO.out o len cap rfl HS.out (by have:=HL.out;simp;omega) (by simp;omega) ?_)
 intro v' w2 hown hgrow
 have HR:=zh hown
 have HBE:=zh (show Below w.heap.size w w2 from ((Below.one w _).trans ((Below.one _ _).mono (by simp))).grown hgrow (by simp;omega) (fun g hg=>by simp[Value.ownBlock] at hg;omega))
 have bx:BoxL w2 w.heap.size 49 [.int .i64 17,.int .i64 d,.int .i64 a,.int .i64 b,.slice o len cap]:=(hgrow.block _ (by simp;omega) (by simp[Value.ownBlock])).trans ((BoxL.new rfl _ _).alloc _)
 have x0:=bx.cell 0 rfl
 have x1:=bx.cell 1 rfl
 clear hown hgrow bx
 go_wp2_with fail
 go_ret2
 exact ⟨_,rfl,rowInts (l:=[a]++l) HR.out (by intro x hx;rcases List.mem_cons.1 hx with rfl | h;exact HA.out;exact HV.out.i64 x h),HBE.out⟩
theorem zja (d a b:Int) (l:List Int) (o:Option Addr) (len cap:Nat) (B:Nat) (w:World) (ha:I64 a) (hb:I64 b) (hv:SlC w B 1 IntR l (.slice o len cap)) (hB:B≤w.heap.size) (hmx:l.length≤1000000) :
  Calls prog 84 #[.agg #[.int .i64 18,.int .i64 d,.int .i64 a,.int .i64 b,.slice o len cap]] w (zad ⟨18,d,a,b,l⟩ w):=by
 have HG:Unt.gives ⟨18,d,a,b,l⟩=d:=by simp[Unt.gives]
 have HN:Unt.named ⟨18,d,a,b,l⟩=b::l:=by simp[Unt.named]
 unfold zad
 rw[HG,HN]
 have HV:=zh hv
 have HA:=zh ha
 have HB:=zh hb
 obtain ⟨hlen,hcap,hmax⟩:=hv.lens
 have HL:=zh hlen
 have hmx':len≤1000000:=by omega
 clear HG HN hv ha hb hlen
 go_enter func84,ntmps84
 have HO:=zh (zaN (W:=(w.alloc (.cells #[.int .i64 18,.int .i64 d,.int .i64 a,.int .i64 b,.slice o len cap] 49))) (b:=w.heap.size+1) (base:=w.heap.size) (by simp) (by omega) 3 1 1 [.int .i64 b] rfl (by unfold maxLen;omega))
 have HS:=zh (show SlC ((w.alloc (.cells #[.int .i64 18,.int .i64 d,.int .i64 a,.int .i64 b,.slice o len cap] 49)).alloc (.cells [.int .i64 b].toArray 3)) B 1 IntR l (.slice o len cap) from HV.out.kept (((Below.one w _).trans ((Below.one _ _).mono (by simp))).mono hB) fun _ _ _ h=>h)
 go_wp2_with (at_builtin;refine zaA rfl (.tmp 45) (.tmp 47) rfl w.heap.size B (.slice (some ⟨w.heap.size+1,0,none⟩) 1 1) [b] l rfl HO.out o len cap rfl HS.out (by have:=HL.out;simp;omega) (by simp;omega) ?_)
 intro v' w2 hown hgrow
 have HR:=zh hown
 have HBE:=zh (show Below w.heap.size w w2 from ((Below.one w _).trans ((Below.one _ _).mono (by simp))).grown hgrow (by simp;omega) (fun g hg=>by simp[Value.ownBlock] at hg;omega))
 have bx:BoxL w2 w.heap.size 49 [.int .i64 18,.int .i64 d,.int .i64 a,.int .i64 b,.slice o len cap]:=(hgrow.block _ (by simp;omega) (by simp[Value.ownBlock])).trans ((BoxL.new rfl _ _).alloc _)
 have x0:=bx.cell 0 rfl
 have x1:=bx.cell 1 rfl
 clear hown hgrow bx
 go_wp2_with fail
 go_ret2
 exact ⟨_,rfl,rowInts (l:=[b]++l) HR.out (by intro x hx;rcases List.mem_cons.1 hx with rfl | h;exact HB.out;exact HV.out.i64 x h),HBE.out⟩
theorem zjs (d a b:Int) (l:List Int) (o:Option Addr) (len cap:Nat) (B:Nat) (w:World) (ha:I64 a) (hb:I64 b) (hv:SlC w B 1 IntR l (.slice o len cap)) (hB:B≤w.heap.size) (hmx:l.length≤1000000) :
  Calls prog 84 #[.agg #[.int .i64 19,.int .i64 d,.int .i64 a,.int .i64 b,.slice o len cap]] w (zad ⟨19,d,a,b,l⟩ w):=by
 have HG:Unt.gives ⟨19,d,a,b,l⟩ = -1:=by simp[Unt.gives]
 have HN:Unt.named ⟨19,d,a,b,l⟩=a::l:=by simp[Unt.named]
 unfold zad
 rw[HG,HN]
 have HV:=zh hv
 have HA:=zh ha
 have HB:=zh hb
 obtain ⟨hlen,hcap,hmax⟩:=hv.lens
 have HL:=zh hlen
 have hmx':len≤1000000:=by omega
 clear HG HN hv ha hb hlen
 go_enter func84,ntmps84
 have HO:=zh (zaN (W:=(w.alloc (.cells #[.int .i64 19,.int .i64 d,.int .i64 a,.int .i64 b,.slice o len cap] 49))) (b:=w.heap.size+1) (base:=w.heap.size) (by simp) (by omega) 3 1 1 [.int .i64 a] rfl (by unfold maxLen;omega))
 have HS:=zh (show SlC ((w.alloc (.cells #[.int .i64 19,.int .i64 d,.int .i64 a,.int .i64 b,.slice o len cap] 49)).alloc (.cells [.int .i64 a].toArray 3)) B 1 IntR l (.slice o len cap) from HV.out.kept (((Below.one w _).trans ((Below.one _ _).mono (by simp))).mono hB) fun _ _ _ h=>h)
 go_wp2_with (at_builtin;refine zaA rfl (.tmp 36) (.tmp 38) rfl w.heap.size B (.slice (some ⟨w.heap.size+1,0,none⟩) 1 1) [a] l rfl HO.out o len cap rfl HS.out (by have:=HL.out;simp;omega) (by simp;omega) ?_)
 intro v' w2 hown hgrow
 have HR:=zh hown
 have HBE:=zh (show Below w.heap.size w w2 from ((Below.one w _).trans ((Below.one _ _).mono (by simp))).grown hgrow (by simp;omega) (fun g hg=>by simp[Value.ownBlock] at hg;omega))
 have bx:BoxL w2 w.heap.size 49 [.int .i64 19,.int .i64 d,.int .i64 a,.int .i64 b,.slice o len cap]:=(hgrow.block _ (by simp;omega) (by simp[Value.ownBlock])).trans ((BoxL.new rfl _ _).alloc _)
 have x0:=bx.cell 0 rfl
 have x1:=bx.cell 1 rfl
 clear hown hgrow bx
 go_wp2_with fail
 go_ret2
 exact ⟨_,rfl,rowInts (l:=[a]++l) HR.out (by intro x hx;rcases List.mem_cons.1 hx with rfl | h;exact HA.out;exact HV.out.i64 x h),HBE.out⟩
theorem zjk (d a b:Int) (l:List Int) (o:Option Addr) (len cap:Nat) (B:Nat) (w:World) (ha:I64 a) (hb:I64 b) (hv:SlC w B 1 IntR l (.slice o len cap)) (hB:B≤w.heap.size) (hmx:l.length≤1000000) :
  Calls prog 84 #[.agg #[.int .i64 20,.int .i64 d,.int .i64 a,.int .i64 b,.slice o len cap]] w (zad ⟨20,d,a,b,l⟩ w):=by
 have HG:Unt.gives ⟨20,d,a,b,l⟩ = -1:=by simp[Unt.gives]
 have HN:Unt.named ⟨20,d,a,b,l⟩=b::l:=by simp[Unt.named]
 unfold zad
 rw[HG,HN]
 have HV:=zh hv
 have HA:=zh ha
 have HB:=zh hb
 obtain ⟨hlen,hcap,hmax⟩:=hv.lens
 have HL:=zh hlen
 have hmx':len≤1000000:=by omega
 clear HG HN hv ha hb hlen
 go_enter func84,ntmps84
 have HO:=zh (zaN (W:=(w.alloc (.cells #[.int .i64 20,.int .i64 d,.int .i64 a,.int .i64 b,.slice o len cap] 49))) (b:=w.heap.size+1) (base:=w.heap.size) (by simp) (by omega) 3 1 1 [.int .i64 b] rfl (by unfold maxLen;omega))
 have HS:=zh (show SlC ((w.alloc (.cells #[.int .i64 20,.int .i64 d,.int .i64 a,.int .i64 b,.slice o len cap] 49)).alloc (.cells [.int .i64 b].toArray 3)) B 1 IntR l (.slice o len cap) from HV.out.kept (((Below.one w _).trans ((Below.one _ _).mono (by simp))).mono hB) fun _ _ _ h=>h)
 go_wp2_with (at_builtin;refine zaA rfl (.tmp 45) (.tmp 47) rfl w.heap.size B (.slice (some ⟨w.heap.size+1,0,none⟩) 1 1) [b] l rfl HO.out o len cap rfl HS.out (by have:=HL.out;simp;omega) (by simp;omega) ?_)
 intro v' w2 hown hgrow
 have HR:=zh hown
 have HBE:=zh (show Below w.heap.size w w2 from ((Below.one w _).trans ((Below.one _ _).mono (by simp))).grown hgrow (by simp;omega) (fun g hg=>by simp[Value.ownBlock] at hg;omega))
 have bx:BoxL w2 w.heap.size 49 [.int .i64 20,.int .i64 d,.int .i64 a,.int .i64 b,.slice o len cap]:=(hgrow.block _ (by simp;omega) (by simp[Value.ownBlock])).trans ((BoxL.new rfl _ _).alloc _)
 have x0:=bx.cell 0 rfl
 have x1:=bx.cell 1 rfl
 clear hown hgrow bx
 go_wp2_with fail
 go_ret2
 exact ⟨_,rfl,rowInts (l:=[b]++l) HR.out (by intro x hx;rcases List.mem_cons.1 hx with rfl | h;exact HB.out;exact HV.out.i64 x h),HBE.out⟩
theorem zjj (d a b:Int) (l:List Int) (o:Option Addr) (len cap:Nat) (B:Nat) (w:World) (ha:I64 a) (hb:I64 b) (hv:SlC w B 1 IntR l (.slice o len cap)) (hB:B≤w.heap.size) (hmx:l.length≤1000000) :
  Calls prog 84 #[.agg #[.int .i64 21,.int .i64 d,.int .i64 a,.int .i64 b,.slice o len cap]] w (zad ⟨21,d,a,b,l⟩ w):=by
 have HG:Unt.gives ⟨21,d,a,b,l⟩ = -1:=by simp[Unt.gives]
 have HN:Unt.named ⟨21,d,a,b,l⟩=l:=by simp[Unt.named]
 unfold zad
 rw[HG,HN]
 have HV:=zh hv
 have HA:=zh ha
 have HB:=zh hb
 obtain ⟨hlen,hcap,hmax⟩:=hv.lens
 have HL:=zh hlen
 have hmx':len≤1000000:=by omega
 clear HG HN hv ha hb hlen
 go_enter func84,ntmps84
 go_wp2_with fail
 go_ret2
 exact ⟨_,rfl,(HV.out.kept ((Below.one w _).mono hB) fun _ _ _ h=>h).wider (by simp;omega),Below.one _ _⟩
theorem zjT (d a b:Int) (l:List Int) (o:Option Addr) (len cap:Nat) (B:Nat) (w:World) (ha:I64 a) (hb:I64 b) (hv:SlC w B 1 IntR l (.slice o len cap)) (_hB:B≤w.heap.size) (hmx:l.length≤1000000) :
  Calls prog 84 #[.agg #[.int .i64 22,.int .i64 d,.int .i64 a,.int .i64 b,.slice o len cap]] w (zad ⟨22,d,a,b,l⟩ w):=by
 have HG:Unt.gives ⟨22,d,a,b,l⟩ = -1:=by simp[Unt.gives]
 have HN:Unt.named ⟨22,d,a,b,l⟩=[a]:=by simp[Unt.named]
 unfold zad
 rw[HG,HN]
 have HV:=zh hv
 have HA:=zh ha
 have HB:=zh hb
 obtain ⟨hlen,hcap,hmax⟩:=hv.lens
 have HL:=zh hlen
 have hmx':len≤1000000:=by omega
 clear HG HN hv ha hb hlen
 go_enter func84,ntmps84
 go_wp2_with fail
 go_ret2
 exact ⟨_,rfl,intsNew (B:=((w.alloc (.cells #[.int .i64 22,.int .i64 d,.int .i64 a,.int .i64 b,.slice o len cap] 49)).alloc (.cells #[.int .i64 a] 3)).heap.size) (by simp) (by simp) 3 [a] (by simp[HA.out]) 1 rfl (by omega),(Below.one _ _).trans ((Below.one _ _).mono (by simp))⟩
theorem zea (x:Ins) (c0 c1 c2 c3 c4:Value) (B:Nat) (w:World) (hx:InsR w B x [c0,c1,c2,c3,c4]) (hB:B≤w.heap.size) (hmx:x.l.length≤1000000) (h0:0≤x.op) (h1:x.op≤22) :
  Calls prog 84 #[.agg #[c0,c1,c2,c3,c4]] w (zad x w):=by
 obtain ⟨op,d,a,b,l⟩:=x
 obtain ⟨sl,he,_,_,ha,hb,hv⟩:=hx
 simp only[List.cons.injEq,and_true] at he
 obtain ⟨rfl,rfl,rfl,rfl,rfl⟩:=he
 obtain ⟨o,len,cap,rfl⟩:=hv.form
 dsimp only at ha hb hv hmx h0 h1
 obtain ⟨n,rfl⟩:∃n:Nat,op=n:=⟨op.toNat,by omega⟩
 have hn:n≤22:=by omega
 clear h0 h1
 match n,hn with
 | 0,_=>exact zlt d a b l o len cap B w ha hb hv hB hmx
 | 1,_=>exact zld d a b l o len cap B w ha hb hv hB hmx
 | 2,_=>exact zlR d a b l o len cap B w ha hb hv hB hmx
 | 3,_=>exact zkT d a b l o len cap B w ha hb hv hB hmx
 | 4,_=>exact zlD d a b l o len cap B w ha hb hv hB hmx
 | 5,_=>exact zly d a b l o len cap B w ha hb hv hB hmx
 | 6,_=>exact zlf d a b l o len cap B w ha hb hv hB hmx
 | 7,_=>exact zlm d a b l o len cap B w ha hb hv hB hmx
 | 8,_=>exact zlc d a b l o len cap B w ha hb hv hB hmx
 | 9,_=>exact zk6 d a b l o len cap B w ha hb hv hB hmx
 | 10,_=>exact zj5 d a b l o len cap B w ha hb hv hB hmx
 | 11,_=>exact zki d a b l o len cap B w ha hb hv hB hmx
 | 12,_=>exact zjY d a b l o len cap B w ha hb hv hB hmx
 | 13,_=>exact ziJ d a b l o len cap B w ha hb hv hB hmx
 | 14,_=>exact zkv d a b l o len cap B w ha hb hv hB hmx
 | 15,_=>exact ziV d a b l o len cap B w ha hb hv hB hmx
 | 16,_=>exact zj1 d a b l o len cap B w ha hb hv hB hmx
 | 17,_=>exact zjb d a b l o len cap B w ha hb hv hB hmx
 | 18,_=>exact zja d a b l o len cap B w ha hb hv hB hmx
 | 19,_=>exact zjs d a b l o len cap B w ha hb hv hB hmx
 | 20,_=>exact zjk d a b l o len cap B w ha hb hv hB hmx
 | 21,_=>exact zjj d a b l o len cap B w ha hb hv hB hmx
 | 22,_=>exact zjT d a b l o len cap B w ha hb hv hB hmx
 | n+23,h=>omega
end
section
open Go Go.RowKit Go.Maps Go.ChangeMaps Go.MapKept
open Go.WideElems (Fit findIdx_born findIdx_arr modify_last set_self )
theorem zbJ:Keyed prog 3:=int_keyed underlying3
theorem isKeyZ (x:Int):WideAt.IsKeyLit (.int .i64 x):=by simp[WideAt.IsKeyLit]
theorem zeroB (w:World):(zeroValue 4).run prog w=.ok (.bool false) w:=by kernel_rfl
theorem zeroI (w:World):(zeroValue 3).run prog w=.ok (.int .i64 0) w:=by kernel_rfl
theorem zgR {x:Int} (h:I64 x):(Lit.int .i64 x).wf=true:=by
 have h1:=h.1
 have h2:=h.2
 have e1:IntKind.i64.min = -9223372036854775808:=by decide
 have e2:IntKind.i64.max=9223372036854775807:=by decide
 simp[Lit.wf,e1,e2];omega
theorem zbc {x:Int} (h:I64 x):keyOf prog 3 (.int .i64 x)=some (.int .i64 x):=keyOf_int_mk underlying3 (zgR h)
def MapVB (W:World) (b n:Nat) (f:Int→Bool):Prop:=∃D:DataW Unit,W.ownsMap prog 3 (plainElem prog 4) b n D∧IsMap D∧∀x,D.atKey (.int .i64 x) (.lit (.bool false))=.lit (.bool (f x))
def MapVI (W:World) (b n:Nat) (f:Int→Int):Prop:=∃D:DataW Unit,W.ownsMap prog 3 (plainElem prog 3) b n D∧IsMap D∧∀x,D.atKey (.int .i64 x) (.lit (.int .i64 0))=.lit (.int .i64 (f x))
theorem MapVB.new (W:World):MapVB (W.alloc (.map #[] 0)) W.heap.size 0 (fun _=>false):=⟨_,World.ownsMap_made _ _ _ _,isMap_empty,fun x=>by simp[DataW.atKey]⟩
theorem MapVI.new (W:World):MapVI (W.alloc (.map #[] 0)) W.heap.size 0 (fun _=>0):=⟨_,World.ownsMap_made _ _ _ _,isMap_empty,fun x=>by simp[DataW.atKey]⟩
theorem MapVB.lt {W:World} {b n:Nat} {f:Int→Bool} (h:MapVB W b n f):b<W.heap.size:=let ⟨_,h,_⟩:=h;h.lt
theorem MapVI.lt {W:World} {b n:Nat} {f:Int→Int} (h:MapVI W b n f):b<W.heap.size:=let ⟨_,h,_⟩:=h;h.lt
theorem zbW {P:Program} {k:TypeId} {R:Value→Option (DataW Unit × List MemPlace)} {W W':World} {b n:Nat} {D:DataW Unit} (h:W.ownsMap P k R b n D) (hb:W'.heap[b]?=W.heap[b]?):W'.ownsMap P k R b n D:=by
 obtain ⟨es,clock,h1,h2⟩:=h
 exact ⟨es,clock,hb.trans h1,h2⟩
theorem MapVB.same {W W':World} {b n:Nat} {f:Int→Bool} (h:MapVB W b n f) (hb:W'.heap[b]?=W.heap[b]?):MapVB W' b n f:=let ⟨D,h1,h2⟩:=h;⟨D,zbW h1 hb,h2⟩
theorem MapVI.same {W W':World} {b n:Nat} {f:Int→Int} (h:MapVI W b n f) (hb:W'.heap[b]?=W.heap[b]?):MapVI W' b n f:=let ⟨D,h1,h2⟩:=h;⟨D,zbW h1 hb,h2⟩
theorem MapVB.keep {W W':World} {b n:Nat} {f:Int→Bool} (h:MapVB W b n f) (hb:Below W.heap.size W W'):MapVB W' b n f:=h.same (hb.block _ h.lt)
theorem MapVI.keep {W W':World} {b n:Nat} {f:Int→Int} (h:MapVI W b n f) (hb:Below W.heap.size W W'):MapVI W' b n f:=h.same (hb.block _ h.lt)
theorem MapVB.mono {W:World} {b n n':Nat} {f:Int→Bool} (h:MapVB W b n f) (hn:n≤n'):MapVB W b n' f:=let ⟨D,h1,h2⟩:=h;⟨D,h1.mono hn,h2⟩
theorem MapVB.put {D:DataW Unit} {f:Int→Bool} (hD:IsMap D) (hf:∀x,D.atKey (.int .i64 x) (.lit (.bool false))=.lit (.bool (f x))) (k:Int) (c:Bool):∀x,(D.put (.int .i64 k) (.lit (.bool c))).atKey (.int .i64 x) (.lit (.bool false))=.lit (.bool (if x=k then c else f x)):=fun x=>by
 by_cases h:x=k
 ·subst h;rw[atKey_put_same hD (isKeyZ x),if_pos rfl]
 ·rw[atKey_put_other (by intro e;simp only[Lit.int.injEq,true_and] at e;omega),hf x,if_neg h]
theorem MapVI.put {D:DataW Unit} {f:Int→Int} (hD:IsMap D) (hf:∀x,D.atKey (.int .i64 x) (.lit (.int .i64 0))=.lit (.int .i64 (f x))) (k:Int) (c:Int):∀x,(D.put (.int .i64 k) (.lit (.int .i64 c))).atKey (.int .i64 x) (.lit (.int .i64 0))=.lit (.int .i64 (if x=k then c else f x)):=fun x=>by
 by_cases h:x=k
 ·subst h;rw[atKey_put_same hD (isKeyZ x),if_pos rfl]
 ·rw[atKey_put_other (by intro e;simp only[Lit.int.injEq,true_and] at e;omega),hf x,if_neg h]
theorem MapVB.del {D:DataW Unit} {f:Int→Bool} (hf:∀x,D.atKey (.int .i64 x) (.lit (.bool false))=.lit (.bool (f x))) (k:Int):∀x,(D.del (.int .i64 k)).atKey (.int .i64 x) (.lit (.bool false))=.lit (.bool (if x=k then false else f x)):=fun x=>by
 by_cases h:x=k
 ·subst h;rw[atKey_del_same,if_pos rfl]
 ·rw[atKey_del_other (by intro e;simp only[Lit.int.injEq,true_and] at e;omega),hf x,if_neg h]
section
variable {w : World} {ops : Array Oper} {rest : List Oper} {o : Oper} {a : Act} {Q : Exit → Act → World → Prop}
theorem zbv (hg:Region.wanted o (yielded ops a.tmps)=true) (m x:Operand) (hop:o.op=Op.lookup 68 m x false) (b n:Nat) (f:Int→Bool) (hm:a.eval m=.map (some b)) (hown:MapVB w b n f) (k:Int) (hx:a.eval x=.int .i64 k) (hk:I64 k)
  (hK:wpList prog ops Q rest (a.put o.dst (.bool (f k))) w):wpList prog ops Q (o::rest) a w:=by
 obtain ⟨D,h1,h2,h3⟩:=hown
 exact zbx w hg m x _ hop 3 4 zbJ underlying68 underlying4 (zeroB w) b n D hm h1 _ _ hx (zbc hk) (f k) (h3 k) hK
theorem zcl (hg:o.guard=none) (m x v:Operand) (hop:o.op=Op.mapUpdate 75 m x v) (b n:Nat) (f:Int→Int) (hm:a.eval m=.map (some b)) (hown:MapVI w b n f) (hn:n<1000000000000) (k c:Int) (hx:a.eval x=.int .i64 k) (hv:a.eval v=.int .i64 c) (hk:I64 k) (hc:I64 c)
  (hK:∀w',MapVI w' b (n+1) (fun x=>if x=k then c else f x)→w.grownBy w' (some b)→wpList prog ops Q rest (a.put o.dst undef) w'):wpList prog ops Q (o::rest) a w:=by
 obtain ⟨D,h1,h2,h3⟩:=hown
 refine wpList_mapUpdate_own w hg m x v _ hop 3 3 zbJ underlying75 _ b n D hm h1 (by unfold maxLen;omega) _ _ _ hx hv (zbc hk) _ _ (plainElem_int underlying3 (zgR hc)) ?_
 intro w' h4 h5
 exact hK w' ⟨_,h4,h2.put _ _,MapVI.put h2 h3 k c⟩ h5
theorem zek (hg:o.guard=none) (m x v:Operand) (hop:o.op=Op.mapUpdate 68 m x v) (b n:Nat) (f:Int→Bool) (hm:a.eval m=.map (some b)) (hown:MapVB w b n f) (hn:n<1000000000000000) (k:Int) (c:Bool) (hx:a.eval x=.int .i64 k) (hv:a.eval v=.bool c) (hk:I64 k)
  (hK:∀w',MapVB w' b (n+1) (fun x=>if x=k then c else f x)→w.grownBy w' (some b)→wpList prog ops Q rest (a.put o.dst undef) w'):wpList prog ops Q (o::rest) a w:=by
 obtain ⟨D,h1,h2,h3⟩:=hown
 refine wpList_mapUpdate_own w hg m x v _ hop 3 4 zbJ underlying68 _ b n D hm h1 (by unfold maxLen;omega) _ _ _ hx hv (zbc hk) _ _ (plainElem_bool underlying4 c) ?_
 intro w' h4 h5
 exact hK w' ⟨_,h4,h2.put _ _,MapVB.put h2 h3 k c⟩ h5
theorem zej (hg:o.guard=none) (m x:Operand) (hop:o.op=Op.call { callee:=Callee.builtin Builtin.delete,args:=#[m,x],argTypes:=#[68,3] }) (b n:Nat) (f:Int→Bool) (hm:a.eval m=.map (some b)) (hown:MapVB w b n f) (k:Int) (hx:a.eval x=.int .i64 k) (hk:I64 k)
  (hK:∀w',MapVB w' b n (fun x=>if x=k then false else f x)→w.grownBy w' (some b)→wpList prog ops Q rest (a.put o.dst (.tuple #[])) w'):wpList prog ops Q (o::rest) a w:=by
 obtain ⟨D,h1,h2,h3⟩:=hown
 refine wpList_delete_own w hg m x _ _ hop 4 zbJ underlying68 _ b n D hm h1 _ _ hx (zbc hk) ?_
 intro w' h4 h5
 exact hK w' ⟨_,h4,by obtain ⟨es,rfl⟩:=h2;exact ⟨_,rfl⟩,MapVB.del h3 k⟩ h5.grown
end
theorem zhJ {P:Program} {t k e:TypeId} {R:Value→Option (DataW Unit × List MemPlace)} {w:World} {b n:Nat} {D:DataW Unit} (h:w.ownsMap P k R b n D) (K:Keyed P k) (ht:P.underlying t=some (.map k e)) {z:Value} (hz:∀u:World,(zeroValue e).run P u=.ok z u) (hn:n<maxLen) {key:Value} {kl:Lit} (hkey:keyOf P k key=some kl) :
  ∃v0 st w1,(Instr.mapEntry t (.map (some b)) key).run P w=.ok (.tuple #[v0,st]) w1∧(∀c,c≠b→w1.heap[c]?=w.heap[c]?)∧w1.heap.size=w.heap.size∧∀val d ps,R val=some (d,ps)→∃w2,(Instr.entryStore t (.map (some b)) st val).run P w1=.ok () w2∧w2.ownsMap P k R b (n+1) (D.put kl d)∧w.grownBy w2 (some b):=by
 have H:=h
 obtain ⟨es,clock,hb,F,hs,hD⟩:=h
 obtain ⟨s1,s2,_⟩:=F.stamped
 have others:∀o c,c≠b→(setBlock w b o).heap[c]?=w.heap[c]?:=fun o c hc=>heap_setBlock_other hb _ hc
 rcases K.find w hkey es.toList F.keys with ⟨f1,f2⟩ | ⟨j,e0,f1,f2,f3⟩
 ·refine ⟨z,goInt clock,setBlock w b (.map (es.push ⟨key,z,clock⟩) (clock+1)),?_,others _,by simp[setBlock],fun val d ps hv=>?_⟩
  ·simp[Instr.mapEntry,run_underlying ht,MapKept.run_getObj_map hb,K.check w false hkey,f1,hz,MapKept.run_setObj_map _ hb,Result.andThen,setBlock]
  obtain ⟨w2,hrun,h1,h2⟩:=H.update K ht hn hkey hv
  have hup:(Instr.mapUpdate t (.map (some b)) key val).run P w=.ok () (setBlock w b (.map (es.push ⟨key,val,clock⟩) (clock+1))):=by
   simp[Instr.mapUpdate,run_underlying ht,MapKept.run_getObj_map hb,K.check w false hkey,f1,MapKept.run_setObj_map _ hb,Result.andThen,setBlock]
  obtain rfl:setBlock w b (.map (es.push ⟨key,val,clock⟩) (clock+1))=w2:=by simpa using hup.symm.trans hrun
  refine ⟨_,?_,h1,h2⟩
  have hw1:(setBlock w b (.map (es.push ⟨key,z,clock⟩) (clock+1))).heap[b]?=some (.map (es.push ⟨key,z,clock⟩) (clock+1)):=heap_setBlock_same hb _
  have hidx:(es.push ⟨key,z,clock⟩).findIdx? (fun e=>((e.born:Nat):Int)==((clock:Nat):Int))=some es.size:=by
   rw[findIdx_arr]
   refine findIdx_born (l:=(es.push ⟨key,z,clock⟩).toList) (j:=es.size) (e0:=⟨key,z,clock⟩) ?_ (by simp)
   rw[Array.toList_push,List.map_append]
   refine List.nodup_append.2 ⟨s2,by simp,fun p hp q hq=>?_⟩
   obtain ⟨x,hx,rfl⟩:=List.mem_map.1 hp
   have hq:q=clock:=by simpa using hq
   have:=s1 x hx
   omega
  have hmod:(es.push ⟨key,z,clock⟩).modify es.size (fun e=>{ e with val:=val })=es.push ⟨key,val,clock⟩:=by
   apply Array.ext'
   simp only[Array.toList_modify,Array.toList_push]
   exact modify_last _ _ es.toList
  simp[Instr.entryStore,MapKept.run_getObj_map hw1,asInt,asIntOf,goInt,hidx,hmod,MapKept.run_setObj_map _ hw1,Result.andThen]
  unfold setBlock
  simp
 ·have hj:es[j]?=some e0:=by simpa using f2
  have hsame:es.modify j (fun e=>{ e with key:=key })=es:=by
   apply Array.ext'
   rw[Array.toList_modify,modify_eq_set _ _ _ _ f2,show ({ e0 with key:=key }:MapEntry)=e0 by rw[←f3]]
   exact set_self _ _ _ f2
  refine ⟨e0.val,goInt e0.born,setBlock w b (.map es clock),?_,others _,by simp[setBlock],fun val d ps hv=>?_⟩
  ·simp[Instr.mapEntry,run_underlying ht,MapKept.run_getObj_map hb,K.check w false hkey,f1,hj,f3,K.stays w hkey,hsame,MapKept.run_setObj_map _ hb,Result.andThen,setBlock]
  obtain ⟨w2,hrun,h1,h2⟩:=H.update K ht hn hkey hv
  have hup:(Instr.mapUpdate t (.map (some b)) key val).run P w=.ok () (setBlock w b (.map (es.modify j fun e=>{ e with key:=key,val:=val }) clock)):=by
   simp[Instr.mapUpdate,run_underlying ht,MapKept.run_getObj_map hb,K.check w false hkey,f1,hj,f3,K.stays w hkey,MapKept.run_setObj_map _ hb,Result.andThen,setBlock]
  obtain rfl:setBlock w b (.map (es.modify j fun e=>{ e with key:=key,val:=val }) clock)=w2:=by simpa using hup.symm.trans hrun
  refine ⟨_,?_,h1,h2⟩
  have hw1:(setBlock w b (.map es clock)).heap[b]?=some (.map es clock):=heap_setBlock_same hb _
  have hidx:es.findIdx? (fun e=>((e.born:Nat):Int)==((e0.born:Nat):Int))=some j:=by
   rw[findIdx_arr]
   exact findIdx_born s2 f2
  have hmod:es.modify j (fun e=>{ e with val:=val })=es.modify j (fun e=>{ e with key:=key,val:=val }):=by
   apply Array.ext'
   simp only[Array.toList_modify,modify_eq_set _ _ _ _ f2,←f3]
  simp[Instr.entryStore,MapKept.run_getObj_map hw1,asInt,asIntOf,goInt,hidx,hmod,MapKept.run_setObj_map _ hw1,Result.andThen]
  unfold setBlock
  simp
def Laid (t:TypeId) (w w1:World) (b n:Nat) (f:Int→Bool) (k:Int) (st:Value):Prop:=(∀c,c≠b→w1.heap[c]?=w.heap[c]?)∧w1.heap.size=w.heap.size∧∀c:Bool,∃w2,(Instr.entryStore t (.map (some b)) st (.bool c)).run prog w1=.ok () w2∧MapVB w2 b (n+1) (fun x=>if x=k then c else f x)∧w.grownBy w2 (some b)
section
variable {w : World} {ops : Array Oper} {rest : List Oper} {o : Oper} {a : Act} {Q : Exit → Act → World → Prop}
theorem zda (hg:o.guard=none) (m x:Operand) (hop:o.op=Op.mapEntry 68 m x) (b n:Nat) (f:Int→Bool) (hm:a.eval m=.map (some b)) (hown:MapVB w b n f) (hn:n<1000000000000000) (k:Int) (hx:a.eval x=.int .i64 k) (hk:I64 k)
  (hK:∀w1 v0 st,Hid (Laid 68 w w1 b n f k st)→wpList prog ops Q rest (a.put o.dst (.tuple #[v0,st])) w1):wpList prog ops Q (o::rest) a w:=by
 obtain ⟨D,h1,h2,h3⟩:=hown
 obtain ⟨v0,st,w1,hrun,ho,hs,hst⟩:=zhJ h1 zbJ underlying68 (z:=.bool false) zeroB (by unfold maxLen;omega) (zbc hk)
 refine wpList_plain hg fun K' hK'=>?_
 unfold Oper.wp
 simp[execOp,hop,hm,hx,hrun,Result.andThen]
 refine hK' _ _ (hK w1 v0 st (zh ⟨ho,hs,fun c=>?_⟩))
 obtain ⟨w2,g1,g2,g3⟩:=hst (.bool c) _ _ (plainElem_bool underlying4 c)
 exact ⟨w2,g1,⟨_,g2,h2.put _ _,MapVB.put h2 h3 k c⟩,g3⟩
theorem zdd (hg:o.guard=none) (m s v:Operand) (hop:o.op=Op.entryStore 68 m s v) {w0:World} (b n:Nat) (f:Int→Bool) (k:Int) (st:Value) (c:Bool) (hl:Hid (Laid 68 w0 w b n f k st)) (hm:a.eval m=.map (some b)) (hs:a.eval s=st) (hv:a.eval v=.bool c)
  (hK:∀w',MapVB w' b (n+1) (fun x=>if x=k then c else f x)→w0.grownBy w' (some b)→wpList prog ops Q rest (a.put o.dst undef) w'):wpList prog ops Q (o::rest) a w:=by
 obtain ⟨w2,g1,g2,g3⟩:=hl.out.2.2 c
 refine wpList_plain hg fun K' hK'=>?_
 unfold Oper.wp
 simp[execOp,hop,hm,hs,hv,g1,Result.andThen]
 exact hK' _ _ (hK w2 g2 g3)
end
end
section
open Go Go.RowKit Go.Deep Go.ChangeShapes Go.WideShapes Go.ChangeAt
structure Cod where
 v:List Int
 rest:Bool
 body:Trm
structure Mdl where
 consts:List Dat
 codes:List Cod
 body:Trm
def CodR (w:World) (B:Nat) (c:Cod) (cs:List Value):Prop:=∃vs b0 b1 b2 b3,cs=[vs,.bool c.rest,b0,b1,b2,b3]∧SlC w B 1 IntR c.v vs∧TrmR w B c.body [b0,b1,b2,b3]
def MdlR (w:World) (B:Nat) (m:Mdl) (v:Value):Prop:=∃c p b0 b1 b2 b3,v=.agg #[c,p,b0,b1,b2,b3]∧RepS w B m.consts c∧SlC w B 6 (CodR w B) m.codes p∧TrmR w B m.body [b0,b1,b2,b3]
theorem CodR.kept {w w':World} {B:Nat} {c:Cod} {cs:List Value} (h:CodR w B c cs) (hb:Below B w w'):CodR w' B c cs:=by
 obtain ⟨vs,b0,b1,b2,b3,rfl,h1,h2⟩:=h
 exact ⟨vs,b0,b1,b2,b3,rfl,h1.kept hb fun _ _ _ h=>h,TrmR.kept hb _ _ h2⟩
theorem MdlR.kept {w w':World} {B:Nat} {m:Mdl} {v:Value} (h:MdlR w B m v) (hb:Below B w w'):MdlR w' B m v:=by
 obtain ⟨c,p,b0,b1,b2,b3,rfl,h1,h2,h3⟩:=h
 exact ⟨c,p,b0,b1,b2,b3,rfl,h1.kept hb,h2.kept hb fun _ _ _ h=>CodR.kept h hb,TrmR.kept hb _ _ h3⟩
section
variable {H : Type} {enc : TypeId × Value → H}
end
end
end Go.Proofs.YtdcajmeeeoofgaaGreatDoor
