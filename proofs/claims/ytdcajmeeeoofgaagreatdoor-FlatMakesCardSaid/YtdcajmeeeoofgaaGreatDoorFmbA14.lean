/- .. -/
import Derived.WalkSpells
import Derived.Deep.LoopGhost
import Derived.Deep.DeepCutAuto
import Derived.Deep.RegionLaw
import Derived.Test.YtdcajmeeeoofgaaGreatDoorFmbA13
open Go.Proofs.Tryz
set_option maxRecDepth 100000
set_option maxHeartbeats 16000000
namespace Go.Proofs.YtdcajmeeeoofgaaGreatDoor
section
open Go Go.RowKit Mk
theorem zlr (op n:Int) (v:List Int) (t:List Trm) (hlen:t.length=v.length+1) (ha:∀x∈t,AllC x.t) (c0 c1 c2 c3:Value) (B base mb vb:Nat) (cv:Value) (X:Nat→Prop) (s:MSt) (nc nk:Int) (fr:Bool) (sc:Int→Bool) (W:World)
  (hv:TrmR W B (.mk op n v t) [c0,c1,c2,c3]) (hm:MkIn W B base mb vb cv X s) (hw:∀(j:Nat) x,j<v.length→t[j]?=some x→∀y∈x.t,Trm.wf nc nk fr y sc=true) (hroom:Room s (6*Trm.allL t+4)) :
  Calls prog 67 #[.pointer (some ⟨mb,0,none⟩),.agg #[c0,c1,c2,c3]] W fun r w'=>r=.returned (.tuple #[])∧∃cv',MkGo B base mb vb cv cv' X (Mk.fill Mk.lkL v t (Mk.fix1 v t s)) W w':=by
 obtain ⟨W1,hW1⟩:∃W1,W.alloc (.cells #[c0,c1,c2,c3] 27)=W1:=⟨_,rfl⟩
 have HB1:=zh (show Below W.heap.size W W1 from by rw[←hW1];exact Below.one W _)
 have HBX:=zh (show BoxL W1 W.heap.size 27 [c0,c1,c2,c3] from by rw[←hW1];exact BoxL.new rfl _ _)
 have HM:=zh (hm.keep HB1.out)
 have hsz:=hm.size
 have HW:=zh hW1
 obtain ⟨vs,ts,he,_,_,hvs,hts⟩:=zas.1 hv
 simp only[List.cons.injEq,and_true] at he
 obtain ⟨rfl,rfl,rfl,rfl⟩:=he
 obtain ⟨ov,lv,cvv,rfl⟩:=hvs.form
 obtain ⟨ot,lt,ct,rfl⟩:=hts.form
 have HT:=zh (show TrmS W1 B t (.slice ot lt ct) from TrmS.kept hts (HB1.out.mono hsz))
 have HV:=zh (show SlC W1 B 1 IntR v (.slice ov lv cvv) from hvs.kept (HB1.out.mono hsz) fun _ _ _ h=>h)
 obtain ⟨hlt,hltc,hltm⟩:=SlC.lens HT.out
 obtain ⟨hlv,hlvc,hlvm⟩:=HV.out.lens
 have HLT:=zh hlt
 have HLV:=zh hlv
 have HLE:=zh hlen
 have HA:=zh ha
 have HWF:=zh hw
 have HRO:=zh hroom
 have hshort:=Trm.allL_length t
 have e2:=HBX.out.cell 2 rfl
 have el:=HBX.out.lt
 clear hv hm hW1 hts hvs ha hw hroom hlt hlv hlen
 go_enter func67,ntmps67
 go_upto_region 1 with fail
 rw[HW.out]
 go_wp2_with fail
 go_loopg [12] lv (fun g i wr=>∃(j:Nat) (cv':Value),g=lv-j∧i=.int .i64 j∧j≤lv∧Hid (MkGo B base mb vb cv cv' X (Mk.fix1 (v.take j) t s) W1 wr))
 case atStart=>exact ⟨0,cv,rfl,rfl,by omega,zh (by rw[List.take_zero,show Mk.fix1 [] t s=s by rw[Mk.fix1];simp];exact MkGo.refl HM.out)⟩
 case round=>
  obtain ⟨j,cv1,rfl,rfl,hj,HG⟩:=hrel
  clear e2 el
  by_cases hjl:j<lv
  ·obtain ⟨x,hx⟩:∃x,v[j]?=some x:=⟨_,List.getElem?_eq_getElem (by rw[←HLV.out];exact hjl)⟩
   obtain ⟨y,hy⟩:∃y,t[j]?=some y:=⟨_,List.getElem?_eq_getElem (by have:=HLE.out;have:=HLV.out;omega)⟩
   obtain ⟨yb,yoff,y0,y1,y2,y3,hyo,hpy⟩:=TrmS.part (TrmS.kept HT.out HG.out.low) hy
   obtain ⟨xb,xoff,hxo,hxb,hxc,hxi⟩:=SlC.int (HV.out.kept HG.out.low fun _ _ _ h=>h) hx
   subst hyo hxo
   have hjt:j<lt:=by have:=HLE.out;have:=HLT.out;have:=HLV.out;omega
   have HXI:=zh hxi
   have HPY:=zh hpy
   have HSN:=zh (Mk.fix1_snoc v t j x y s hx hy)
   have hxl:=zac hxc
   have hrm:=Mk.Room.fix1 (k:=3) (v.take j) t (HRO.out.mono (by have:=HLE.out;have:=HLV.out;omega))
   obtain ⟨s1,hs1⟩:∃s1,Mk.fix1 (v.take j) t s=s1:=⟨_,rfl⟩
   rw[hs1] at HG HSN hrm
   have HRM:=zh hrm
   clear hx hy hpy hs1 hrm hxi
   obtain ⟨qa,qb,qc,qd,qe,qf,rfl,rfl,rfl,rfl,hyn⟩:=TrmR.shape HPY.out.r
   have HYN:=zh hyn
   have HDR:=zh (Below.drew (Below.refl wr.heap.size wr))
   have hregs:I64 s1.regs:=⟨by have:=HRM.out.2.1;omega,by have:=HRM.out.2.2.1;omega⟩
   have HRG:=zh hregs
   have HF:=zh (zdW wr.drew (HG.out.inn.keep HDR.out) (HRM.out.mono (by omega)))
   have m2:=HG.out.inn.st.box.cell 2 rfl
   have ml:=HG.out.inn.st.box.lt
   have hvl:s1.fresh.vars.length<1000000000000:=by have:=HRM.out.2.2.2.2;simp only[MSt.fresh];omega
   clear hyn hregs
   go_upto_region 4 with fail
   go_region_with (go_at_call 95;with_reducible refine HF.out.mono ?_;rintro e w1 ⟨rfl,hg1⟩;have HG1:=zh hg1;have n2:=hg1.inn.st.box.cell 2 rfl;have nl:=hg1.inn.st.box.lt;obtain ⟨w5,hup,hm5,hg5⟩:=zk5 hg1.inn.st.vars hvl x s1.regs HXI.out HRG.out;have HM5:=zh hm5;have HG5:=zh hg5;clear hg1 hm5 hg5)
   all_goals
    have HGB:=zh (((HG.out.after HDR.out).next HG1.out).next (HG1.out.inn.bound x s1.regs HM5.out HG5.out))
    have HRM2:=zh (Room.bind (k:=1) [x] [s1.regs] (Room.fresh (k:=2) HRM.out) (fun y hy=>by rw[List.mem_singleton.1 hy];exact ⟨HRM.out.2.1,by have:=HRM.out.2.2.1;omega⟩))
    obtain ⟨s2,hs2⟩:∃s2,s1.fresh.bind [x] [s1.regs]=s2:=⟨_,rfl⟩
    have HLK:=zh (show Mk.lkL s2.vars x=s1.regs from by rw[←hs2];exact (Mk.lkL_snoc _ _ _ _).trans (if_pos rfl))
    rw[hs2] at HGB HSN HRM2
    clear hup n2 nl m2 ml hs2
    clear hvl
    have HPY5:=zh (HPY.out.kept (show Below B wr w5 from (HDR.out.mono HG.out.inn.size).trans (HG1.out.low.trans (HG1.out.inn.bound x s1.regs HM5.out HG5.out).low)))
    have HBX5:=zh (HGB.out.box HM.out HBX.out (by decide) (by decide))
    have y1:=HPY5.out.e1
    have yl:=HPY5.out.size
    have e3:=HBX5.out.cell 3 rfl
    have el:=HBX5.out.lt
    have m2:=HGB.out.inn.st.box.cell 2 rfl
    have ml:=HGB.out.inn.st.box.lt
    clear HG1 HM5 HG5 HPY HDR HF hxl hxc
    go_upto_region 5 with fail
    have HD:=zh ((Below.refl w5.heap.size w5).drew)
    have HDL:=zh (fun (W3:World) (hb:Below w5.heap.size w5 W3)=>zar 7 s1.regs y.n 0 [] none 0 0 W3 (HGB.out.inn.keep hb) (by have:=HRM2.out.1;omega) (by constructor<;>omega) HRG.out HYN.out (by constructor<;>omega) (IntsM.nil _ _))
    refine zaa (Below w5.heap.size w5) 14 (by kernel_rfl) (by kernel_rfl) HD.out ?_
    intro T0 _ WW HWW HWW2
    have z0:∀t,(WW t).cell? _=_:=fun t=>((HWW t).cell (p:=⟨yb,yoff+j*4+1,none⟩) yl).trans y1
    have z1:∀t,(WW t).cell? _=_:=fun t=>((HWW t).cell (p:=⟨W.heap.size,3,none⟩) el).trans e3
    have z2:∀t,(WW t).cell? _=_:=fun t=>((HWW t).cell (p:=⟨mb,2,none⟩) ml).trans m2
    have zk:∀t,(Instr.lookup 75 (.map (some vb)) (.int .i64 x) false).run prog (WW t)=.ok (.int .i64 s1.regs) (WW t):=fun t=>by rw[←HLK.out];exact zbU (HGB.out.inn.st.vars.keep (HWW t)) x HXI.out
    have HWH:=zh HWW
    clear HWW HWW2
    simp only[List.take_succ_cons,List.take_zero,List.drop_succ_cons,List.drop_zero]
    repeat (go_big_quiet_step (fail))
    refine wpQuiet_nil ?_
    intro t'
    obtain ⟨W3,hW3⟩:∃W3,WW t'=W3:=⟨_,rfl⟩
    have HB3:=zh (show Below w5.heap.size w5 W3 from hW3 ▸ HWH.out t')
    rw[hW3]
    clear z0 z1 z2 zk hW3 HWH y1 yl e3 el m2 ml
    have HL:=zh (HDL.out W3 HB3.out)
    go_wp2_with fail
    with_reducible refine HL.out.mono ?_
    rintro r w6 ⟨fv,rfl,cv6,hg6⟩
    have HG6:=zh (show MkGo B base mb vb cv cv6 X (Mk.fix1 (v.take (j+1)) t s) W1 w6 from by rw[HSN.out];exact (HGB.out.after HB3.out).next hg6)
    clear hg6 HL
    go_wp2_with fail
    go_roundg (lv-(j+1))
    case measure=>omega
    case rel=>exact ⟨j+1,cv6,rfl,by go_num,by omega,HG6⟩
  ·obtain rfl:j=lv:=by omega
   have HE:=zh (show v.take j=v from List.take_of_length_le (by rw[←HLV.out];exact Nat.le_refl _))
   have hg:=HG.out
   rw[HE.out] at hg
   have HG0:=zh hg
   have HBX2:=zh (hg.box HM.out HBX.out (by decide) (by decide))
   obtain ⟨s0,hs0⟩:∃s0,Mk.fix1 v t s=s0:=⟨_,rfl⟩
   have HS0:=zh hs0
   rw[hs0] at HG0
   have HRO2:=zh (show Room s0 (6*Trm.allL t+4-3*t.length) from by rw[←hs0];exact Room.fix1 v t (HRO.out.mono (by have:=hshort;omega)))
   have e2:=HBX2.out.cell 2 rfl
   have el:=HBX2.out.lt
   clear hg HG HE hs0
   go_wp2_with fail
   go_loopg [43] j (fun g i wr=>∃(k:Nat) (cv':Value),g=j-k∧i=.int .i64 k∧k≤j∧Hid (MkGo B base mb vb cv cv' X (Mk.fill Mk.lkL (v.take k) t s0) W1 wr))
   case atStart=>exact ⟨0,cv1,rfl,rfl,by omega,zh (by rw[List.take_zero,show Mk.fill Mk.lkL [] t s0=s0 by rw[Mk.fill];simp];exact HG0.out)⟩
   case round=>
    obtain ⟨k,cv2,rfl,rfl,hk,HG⟩:=hrel
    clear e2 el HBX2
    have HBX3:=zh (HG.out.box HM.out HBX.out (by decide) (by decide))
    by_cases hkl:k<j
    ·obtain ⟨x,hx⟩:∃x,v[k]?=some x:=⟨_,List.getElem?_eq_getElem (by rw[←HLV.out];exact hkl)⟩
     obtain ⟨y,hy⟩:∃y,t[k]?=some y:=⟨_,List.getElem?_eq_getElem (by have:=HLE.out;have:=HLV.out;omega)⟩
     obtain ⟨yb,yoff,y0,y1,y2,y3,hyo,hpy⟩:=TrmS.part (TrmS.kept HT.out HG.out.low) hy
     obtain ⟨xb,xoff,hxo,hxb,hxc,hxi⟩:=SlC.int (HV.out.kept HG.out.low fun _ _ _ h=>h) hx
     subst hyo hxo
     have hjt:k<lt:=by have:=HLE.out;have:=HLT.out;have:=HLV.out;omega
     have HXI:=zh hxi
     have HPY:=zh hpy
     have HSN:=zh (Mk.fill_snoc Mk.lkL v t k x y s0 hx hy)
     have hxl:=zac hxc
     have hrm:Room (Mk.fill Mk.lkL (v.take k) t s0) (6*Trm.allL y.t+1):=by
      have e1:Mk.fill Mk.lkL (v.take k) t s0=Mk.fill Mk.lkL (v.take k) (t.take k) s0:=by
       rw[←Mk.fill_take Mk.lkL (v.take k) t s0,List.length_take,Nat.min_eq_left (by have:=HLV.out;omega)]
      rw[e1]
      refine Mk.Room.fill Mk.lkL_ok (v.take k) (t.take k) (HRO2.out.mono ?_)
      have h1:=za2 hy
      have h2:Trm.allL (t.take (k+1))+Trm.allL (t.drop (k+1))=Trm.allL t:=by rw[←zaz,List.take_append_drop]
      have h3:=Trm.allL_length (t.drop (k+1))
      have h4:(t.take k).length=k:=by rw[List.length_take];have:=HLT.out;omega
      have h5:y.all=1+Trm.allL y.t:=by obtain ⟨o,n,v,t⟩:=y;rfl
      rw[List.length_drop] at h3
      have h6:=HLE.out
      have h7:=HLV.out
      have h8:=Trm.allL_length (t.take k)
      rw[h4] at h8 ⊢
      omega
     obtain ⟨s1,hs1⟩:∃s1,Mk.fill Mk.lkL (v.take k) t s0=s1:=⟨_,rfl⟩
     rw[hs1] at HG HSN hrm
     have HRM:=zh hrm
     obtain ⟨qa,qb,qc,qd,qe,qf,rfl,rfl,rfl,rfl,hyn⟩:=TrmR.shape HPY.out.r
     have HAL:=zh (show Calls prog 66 #[.pointer (some ⟨mb,0,none⟩),.slice qd qe qf] wr fun r w'=>∃rv,r=.returned rv∧∃cv',MkGo B base mb vb cv2 cv' X (Mk.allT Mk.lkL y.t s1).2 wr w'∧IntsM w' (fun b=>SM mb vb cv' b∨X b) (Mk.allT Mk.lkL y.t s1).1 rv from
      HA.out y (List.mem_of_getElem? hy) _ B base mb vb cv2 X s1 nc nk fr sc wr (by
       have hr:=HPY.out.r
       obtain ⟨oy,ny,vy,ty⟩:=y
       obtain ⟨vs',ts',he,_,_,_,h⟩:=zas.1 hr
       simp only[List.cons.injEq,and_true] at he
       obtain ⟨_,_,_,rfl⟩:=he
       exact h) HG.out.inn (HWF.out k y (by have:=HLV.out;omega) hy) (hrm.mono (by omega)))
     have hra:=Room.allT (k:=1) Mk.lkL_ok y.t s1 (hrm.mono (by omega))
     obtain ⟨p,hp⟩:∃p,Mk.allT Mk.lkL y.t s1=p:=⟨_,rfl⟩
     rw[hp] at HAL HSN hra
     have HRA:=zh hra
     have y3':=HPY.out.e3
     have yl:=HPY.out.size
     have e3:=HBX3.out.cell 3 rfl
     have el:=HBX3.out.lt
     clear hx hy hpy hs1 hrm hxi hra hp hyn
     go_wp2_with fail
     with_reducible refine HAL.out.mono ?_
     rintro r w2 ⟨rv,rfl,cv3,hg2,hi2⟩
     obtain ⟨ol,ll,cl,rfl⟩:=hi2.1.form
     have HG2:=zh (HG.out.next hg2)
     have hrl:=HRA.out.1.lk Mk.lkL_ok x
     have HL:=zh (zar 8 0 (Mk.lkL p.2.vars x) 0 p.1 ol ll cl w2 HG2.out.inn (by have:=HRA.out.1.1;omega) (by constructor<;>omega) (by constructor<;>omega) ⟨by omega,by omega⟩ (by constructor<;>omega) hi2)
     have zk:=zbU HG2.out.inn.st.vars x HXI.out
     have m2:=HG2.out.inn.st.box.cell 2 rfl
     have ml:=HG2.out.inn.st.box.lt
     obtain ⟨rg,hrg⟩:∃rg,Mk.lkL p.2.vars x=rg:=⟨_,rfl⟩
     rw[hrg] at HL HSN zk
     clear hg2 hi2 hrl y3' yl e3 el hxc hxl hrg HAL
     go_wp2_with fail
     with_reducible refine HL.out.mono ?_
     rintro r w6 ⟨fv,rfl,cv6,hg6⟩
     have HG6:=zh (show MkGo B base mb vb cv cv6 X (Mk.fill Mk.lkL (v.take (k+1)) t s0) W1 w6 from by rw[HSN.out];exact HG2.out.next hg6)
     clear hg6 HL zk m2 ml
     go_wp2_with fail
     go_roundg (j-(k+1))
     case measure=>omega
     case rel=>exact ⟨k+1,cv6,rfl,by go_num,by omega,HG6⟩
    ·obtain rfl:k=j:=by omega
     have HE:=zh (show v.take k=v from List.take_of_length_le (by rw[←HLV.out];exact Nat.le_refl _))
     have hg:=HG.out
     rw[HE.out,←HS0.out] at hg
     have HG9:=zh (hg.before HB1.out hsz)
     clear hg HG
     go_wp2_with fail
     first | go_end0 | (refine bodyPost_ret (results_none rfl _ _ _) rfl ?_)
     exact ⟨rfl,_,HG9.out⟩
end
section
open Go Go.RowKit
theorem zdE (l:List Int) (sl:Value) (v:Int) (B:Nat) (w:World) (hv:SlC w B 1 IntR l sl) (_hB:B≤w.heap.size) (r:Bool) (hr:l.contains v=r) :
  Calls prog 73 #[sl,.int .i64 v] w fun e w'=>e=.returned (.bool r)∧Below w.heap.size w w':=by
 obtain ⟨o,n,c,rfl⟩:=hv.form
 obtain ⟨hn,hc,hm⟩:=hv.lens
 have HV:=zh hv
 have HN:=zh hn
 have HR:=zh hr
 clear hv hn hr
 go_enter func73,ntmps73
 go_wp2_with fail
 go_loopg [5] n (fun g i wr=>∃j:Nat,g=n-j∧j≤n∧i=.int .i64 j∧Hid (∀(i:Nat) (x:Int),i<j→l[i]?=some x→x≠v)∧w=wr)
 case atStart=>exact ⟨0,rfl,by omega,rfl,zh (fun i x h=>absurd h (by omega)),rfl⟩
 case round=>
  obtain ⟨j,rfl,hj,rfl,HA,rfl⟩:=hrel
  by_cases hjl:j<n
  ·obtain ⟨x,hx⟩:∃x,l[j]?=some x:=⟨_,List.getElem?_eq_getElem (by rw[←HN.out];exact hjl)⟩
   obtain ⟨xb,xoff,hxo,hxb,hxc,hxi⟩:=SlC.int HV.out hx
   subst hxo
   have hxl:=zac hxc
   have HX:=zh hx
   clear hx hxi
   by_cases hq:x=v
   ·have q:(x==v)=true:=by simp[hq]
    obtain rfl:r=true:=by
     rw[←HR.out,List.contains_iff_mem,←hq]
     exact List.mem_of_getElem? HX.out
    clear hq
    go_wp2_with fail
    go_ret
    exact ⟨rfl,Below.refl _ _⟩
   ·have q:(x==v)=false:=by simp[hq]
    have HA2:=zh (show ∀(i:Nat) (y:Int),i<j+1→l[i]?=some y→y≠v from fun i y hi hy=>by
     by_cases h:i=j
     ·subst h
      obtain rfl:x=y:=Option.some.inj (HX.out.symm.trans hy)
      exact hq
     ·exact HA.out i y (by omega) hy)
    clear hq
    go_wp2_with fail
    go_roundg (n-(j+1))
    case measure=>omega
    case rel=>exact ⟨j+1,rfl,by omega,by go_num,HA2,rfl⟩
  ·obtain rfl:r=false:=by
    rw[←HR.out]
    cases h:l.contains v with
    | false=>rfl
    | true=>
     obtain ⟨i,hi⟩:=List.getElem?_of_mem (List.contains_iff_mem.1 h)
     have:=(List.getElem?_eq_some_iff.1 hi).1
     exact absurd rfl (HA.out i v (by have:=HN.out;omega) hi)
   go_wp2_with fail
   go_ret
   exact ⟨rfl,Below.refl _ _⟩
theorem ziK (w:World):Calls prog 70 #[.int .i64 0,.int .i64 3] w fun e w'=>e=.returned (.bool true)∧Below w.heap.size w w':=by
 go_enter func70,ntmps70
 go_wp2_with fail
 go_ret
 exact ⟨rfl,Below.refl _ _⟩
theorem zjh (w:World):Calls prog 70 #[.int .i64 1,.int .i64 3] w fun e w'=>e=.returned (.bool true)∧Below w.heap.size w w':=by
 go_enter func70,ntmps70
 go_wp2_with fail
 go_ret
 exact ⟨rfl,Below.refl _ _⟩
theorem zjy (w:World):Calls prog 70 #[.int .i64 2,.int .i64 3] w fun e w'=>e=.returned (.bool false)∧Below w.heap.size w w':=by
 go_enter func70,ntmps70
 go_wp2_with fail
 go_ret
 exact ⟨rfl,Below.refl _ _⟩
theorem zjQ (w:World):Calls prog 70 #[.int .i64 3,.int .i64 3] w fun e w'=>e=.returned (.bool true)∧Below w.heap.size w w':=by
 go_enter func70,ntmps70
 go_wp2_with fail
 go_ret
 exact ⟨rfl,Below.refl _ _⟩
theorem ziO (w:World):Calls prog 70 #[.int .i64 4,.int .i64 3] w fun e w'=>e=.returned (.bool false)∧Below w.heap.size w w':=by
 go_enter func70,ntmps70
 go_wp2_with fail
 go_ret
 exact ⟨rfl,Below.refl _ _⟩
theorem zkC (w:World):Calls prog 70 #[.int .i64 5,.int .i64 3] w fun e w'=>e=.returned (.bool true)∧Below w.heap.size w w':=by
 go_enter func70,ntmps70
 go_wp2_with fail
 go_ret
 exact ⟨rfl,Below.refl _ _⟩
theorem zku (w:World):Calls prog 70 #[.int .i64 6,.int .i64 3] w fun e w'=>e=.returned (.bool true)∧Below w.heap.size w w':=by
 go_enter func70,ntmps70
 go_wp2_with fail
 go_ret
 exact ⟨rfl,Below.refl _ _⟩
theorem zks (w:World):Calls prog 70 #[.int .i64 7,.int .i64 3] w fun e w'=>e=.returned (.bool false)∧Below w.heap.size w w':=by
 go_enter func70,ntmps70
 go_wp2_with fail
 go_ret
 exact ⟨rfl,Below.refl _ _⟩
theorem zjo (w:World):Calls prog 70 #[.int .i64 8,.int .i64 3] w fun e w'=>e=.returned (.bool true)∧Below w.heap.size w w':=by
 go_enter func70,ntmps70
 go_wp2_with fail
 go_ret
 exact ⟨rfl,Below.refl _ _⟩
theorem zkf (w:World):Calls prog 70 #[.int .i64 9,.int .i64 3] w fun e w'=>e=.returned (.bool true)∧Below w.heap.size w w':=by
 go_enter func70,ntmps70
 go_wp2_with fail
 go_ret
 exact ⟨rfl,Below.refl _ _⟩
theorem zhr (w:World):Calls prog 70 #[.int .i64 10,.int .i64 3] w fun e w'=>e=.returned (.bool true)∧Below w.heap.size w w':=by
 go_enter func70,ntmps70
 go_wp2_with fail
 go_ret
 exact ⟨rfl,Below.refl _ _⟩
theorem zg0 (w:World):Calls prog 70 #[.int .i64 11,.int .i64 3] w fun e w'=>e=.returned (.bool true)∧Below w.heap.size w w':=by
 go_enter func70,ntmps70
 go_wp2_with fail
 go_ret
 exact ⟨rfl,Below.refl _ _⟩
theorem zhM (w:World):Calls prog 70 #[.int .i64 12,.int .i64 3] w fun e w'=>e=.returned (.bool true)∧Below w.heap.size w w':=by
 go_enter func70,ntmps70
 go_wp2_with fail
 go_ret
 exact ⟨rfl,Below.refl _ _⟩
theorem zg8 (w:World):Calls prog 70 #[.int .i64 13,.int .i64 3] w fun e w'=>e=.returned (.bool true)∧Below w.heap.size w w':=by
 go_enter func70,ntmps70
 go_wp2_with fail
 go_ret
 exact ⟨rfl,Below.refl _ _⟩
theorem zhF (w:World):Calls prog 70 #[.int .i64 14,.int .i64 3] w fun e w'=>e=.returned (.bool false)∧Below w.heap.size w w':=by
 go_enter func70,ntmps70
 go_wp2_with fail
 go_ret
 exact ⟨rfl,Below.refl _ _⟩
theorem zis (w:World):Calls prog 70 #[.int .i64 15,.int .i64 3] w fun e w'=>e=.returned (.bool true)∧Below w.heap.size w w':=by
 go_enter func70,ntmps70
 go_wp2_with fail
 go_ret
 exact ⟨rfl,Below.refl _ _⟩
theorem zh9 (w:World):Calls prog 70 #[.int .i64 16,.int .i64 3] w fun e w'=>e=.returned (.bool true)∧Below w.heap.size w w':=by
 go_enter func70,ntmps70
 go_wp2_with fail
 go_ret
 exact ⟨rfl,Below.refl _ _⟩
theorem zhE (w:World):Calls prog 70 #[.int .i64 17,.int .i64 3] w fun e w'=>e=.returned (.bool true)∧Below w.heap.size w w':=by
 go_enter func70,ntmps70
 go_wp2_with fail
 go_ret
 exact ⟨rfl,Below.refl _ _⟩
theorem zhf (w:World):Calls prog 70 #[.int .i64 18,.int .i64 3] w fun e w'=>e=.returned (.bool true)∧Below w.heap.size w w':=by
 go_enter func70,ntmps70
 go_wp2_with fail
 go_ret
 exact ⟨rfl,Below.refl _ _⟩
theorem zgP (w:World):Calls prog 70 #[.int .i64 19,.int .i64 3] w fun e w'=>e=.returned (.bool true)∧Below w.heap.size w w':=by
 go_enter func70,ntmps70
 go_wp2_with fail
 go_ret
 exact ⟨rfl,Below.refl _ _⟩
theorem zic (w:World):Calls prog 70 #[.int .i64 20,.int .i64 3] w fun e w'=>e=.returned (.bool true)∧Below w.heap.size w w':=by
 go_enter func70,ntmps70
 go_wp2_with fail
 go_ret
 exact ⟨rfl,Below.refl _ _⟩
theorem zig (w:World):Calls prog 70 #[.int .i64 21,.int .i64 3] w fun e w'=>e=.returned (.bool true)∧Below w.heap.size w w':=by
 go_enter func70,ntmps70
 go_wp2_with fail
 go_ret
 exact ⟨rfl,Below.refl _ _⟩
theorem zh5 (w:World):Calls prog 70 #[.int .i64 22,.int .i64 3] w fun e w'=>e=.returned (.bool true)∧Below w.heap.size w w':=by
 go_enter func70,ntmps70
 go_wp2_with fail
 go_ret
 exact ⟨rfl,Below.refl _ _⟩
theorem ziq (n:Int) (h:n<0∨22<n) (w:World):Calls prog 70 #[.int .i64 n,.int .i64 3] w fun e w'=>e=.returned (.bool false)∧Below w.heap.size w w':=by
 have f0:(n==0)=false:=by simp;omega
 have f1:(n==1)=false:=by simp;omega
 have f2:(n==2)=false:=by simp;omega
 have f3:(n==3)=false:=by simp;omega
 have f4:(n==4)=false:=by simp;omega
 have f5:(n==5)=false:=by simp;omega
 have f6:(n==6)=false:=by simp;omega
 have f7:(n==7)=false:=by simp;omega
 have f8:(n==8)=false:=by simp;omega
 have f9:(n==9)=false:=by simp;omega
 have f10:(n==10)=false:=by simp;omega
 have f11:(n==11)=false:=by simp;omega
 have f12:(n==12)=false:=by simp;omega
 have f13:(n==13)=false:=by simp;omega
 have f14:(n==14)=false:=by simp;omega
 have f15:(n==15)=false:=by simp;omega
 have f16:(n==16)=false:=by simp;omega
 have f17:(n==17)=false:=by simp;omega
 have f18:(n==18)=false:=by simp;omega
 have f19:(n==19)=false:=by simp;omega
 have f20:(n==20)=false:=by simp;omega
 have f21:(n==21)=false:=by simp;omega
 have f22:(n==22)=false:=by simp;omega
 clear h
 go_enter func70,ntmps70
 go_wp2_with fail
 go_ret
 exact ⟨rfl,Below.refl _ _⟩
theorem zcf (n:Int) (w:World):Calls prog 70 #[.int .i64 n,.int .i64 3] w fun e w'=>e=.returned (.bool (Trm.sortB n))∧Below w.heap.size w w':=by
 by_cases ho:n<0∨22<n
 ·rw[show Trm.sortB n=false from by simp[Trm.sortB];omega]
  exact ziq n ho w
 have hop:n=0∨n=1∨n=2∨n=3∨n=4∨n=5∨n=6∨n=7∨n=8∨n=9∨n=10∨n=11∨n=12∨n=13∨n=14∨n=15∨n=16∨n=17∨n=18∨n=19∨n=20∨n=21∨n=22:=by omega
 clear ho
 rcases hop with rfl | rfl | rfl | rfl | rfl | rfl | rfl | rfl | rfl | rfl | rfl | rfl | rfl | rfl | rfl | rfl | rfl | rfl | rfl | rfl | rfl | rfl | rfl
 ·exact ziK w
 ·exact zjh w
 ·exact zjy w
 ·exact zjQ w
 ·exact ziO w
 ·exact zkC w
 ·exact zku w
 ·exact zks w
 ·exact zjo w
 ·exact zkf w
 ·exact zhr w
 ·exact zg0 w
 ·exact zhM w
 ·exact zg8 w
 ·exact zhF w
 ·exact zis w
 ·exact zh9 w
 ·exact zhE w
 ·exact zhf w
 ·exact zgP w
 ·exact zic w
 ·exact zig w
 ·exact zh5 w
end
section
open Go Go.RowKit
structure ChkM (W:World) (cb bb:Nat) (nc nk:Int) (fr:Bool) (size:Int) (l:List Int):Prop where
 box:BoxL W cb 70 [.int .i64 3,.int .i64 nc,.int .i64 nk,.bool fr,.int .i64 size,.map (some bb)]
 bound:MapVB W bb l.length (setOf l)
 new:Trm.newB (fun _=>false) l=true
theorem ChkM.keep {W W':World} {cb bb:Nat} {nc nk:Int} {fr:Bool} {size:Int} {l:List Int} (h:ChkM W cb bb nc nk fr size l) (hb:Below W.heap.size W W'):ChkM W' cb bb nc nk fr size l:=⟨h.box.keep hb,h.bound.keep hb,h.new⟩
theorem ChkM.scoped {W:World} {cb bb:Nat} {nc nk:Int} {fr:Bool} {size:Int} {l:List Int} (h:ChkM W cb bb nc nk fr size l):ChkS (W.alloc (.map #[] 0)) cb bb W.heap.size nc nk fr size l (fun _=>false):=
 ⟨h.box.alloc _,h.bound.keep (Below.one _ _),(MapVB.new W).mono (Nat.zero_le _),h.new,fun e=>by have:=h.bound.lt;omega⟩
theorem ChkS.unscoped {W:World} {cb bb sb:Nat} {nc nk:Int} {fr:Bool} {size:Int} {l:List Int} {sc:Int→Bool} (h:ChkS W cb bb sb nc nk fr size l sc):ChkM W cb bb nc nk fr size l:=⟨h.box,h.bound,h.new⟩
def Mdl.all (m:Mdl):Nat:=m.body.all+(m.codes.map fun c=>c.body.all).sum
theorem zbR {nc nk:Int} {c:Cod} {l:List Cod} {_b lj:List Int} (hl:Trm.newB (fun _=>false) lj=true):Mdl.codesB nc nk (c::l) (setOf lj)=((!c.rest || decide (0<c.v.length))&&(Trm.newB (fun _=>false) (lj++c.v++c.body.bnd)&&(c.body.wf nc nk true (Trm.addV (fun _=>false) c.v)&&Mdl.codesB nc nk l (setOf (lj++c.v++c.body.bnd))))):=by
 rw[Mdl.codesB,List.append_assoc,Trm.newB_append (a:=lj),hl,Bool.true_and]
 unfold setOf
 simp only[Trm.addV_append]
theorem zcM:∀(l:List Nat) (j:Nat) (x:Nat),l[j]?=some x→(l.take j).sum+x≤l.sum
 | [],j,x,h=>by simp at h
 | y::l,0,x,h=>by
  simp only[List.getElem?_cons_zero,Option.some.injEq] at h
  subst h
  simp
 | y::l,j+1,x,h=>by
  have:=zcM l j x (by simpa using h)
  simp only[List.take_succ_cons,List.sum_cons]
  omega
theorem zcp (l:List Cod) (j:Nat) (c:Cod) (h:l[j]?=some c):((l.take (j+1)).map fun c=>c.body.all).sum=((l.take j).map fun c=>c.body.all).sum+c.body.all∧((l.take j).map fun c=>c.body.all).sum+c.body.all≤(l.map fun c=>c.body.all).sum:=by
 constructor
 ·rw[List.take_add_one,h]
  simp
 ·have:=zcM (l.map fun c=>c.body.all) j c.body.all (by simp[h])
  rwa[List.map_take]
theorem ChkM.freed {W:World} {cb bb:Nat} {nc nk:Int} {fr:Bool} {size:Int} {l:List Int} (h:ChkM W cb bb nc nk fr size l):ChkM (W.setCell ⟨cb,3,none⟩ (.bool true)) cb bb nc nk true size l:=
 ⟨h.box.set 3 _,h.bound.same (zag W ⟨cb,3,none⟩ _ (fun e=>zaD h.bound h.box e.symm)),h.new⟩
theorem zd6 {W:World} {B:Nat} {c:Cod} {cs:List Value} (h:CodR W B c cs):∃ov lv cv q r u q' r' u',cs=[.slice ov lv cv,.bool c.rest,.int .i64 c.body.op,.int .i64 c.body.n,.slice q r u,.slice q' r' u']∧SlC W B 1 IntR c.v (.slice ov lv cv)∧TrmR W B c.body [.int .i64 c.body.op,.int .i64 c.body.n,.slice q r u,.slice q' r' u']:=by
 obtain ⟨vs,b0,b1,b2,b3,rfl,h1,h2⟩:=h
 obtain ⟨q,r,u,q',r',u',rfl,rfl,rfl,rfl,_⟩:=TrmR.shape h2
 obtain ⟨ov,lv,cv,rfl⟩:=h1.form
 exact ⟨_,_,_,_,_,_,_,_,_,rfl,h1,h2⟩
theorem zg4 (m:Mdl) (v:Value) (B:Nat) (w:World) (hv:MdlR w B m v) (hB:B≤w.heap.size) (hs:m.all≤19000) (hd:m.body.all≤390∧∀c∈m.codes,c.body.all≤390) (hn:m.codes.length≤1000000) (E:Int) (hE:(if m.okB then (0:Int) else 5)=E) :
  Calls prog 13 #[v] w fun e w'=>e=.returned (.int .i64 E)∧Below w.heap.size w w':=by
 obtain ⟨cc,pp,b0,b1,b2,b3,rfl,hcon,hcod,hbody⟩:=hv
 obtain ⟨q,r,u,q',r',u',rfl,rfl,rfl,rfl,hbn⟩:=TrmR.shape hbody
 obtain ⟨oc,lc,kc,rfl⟩:∃o l c,cc=.slice o l c:=by obtain ⟨o,l,c,h,_⟩:=hcon;exact ⟨o,l,c,h⟩
 have hlc:lc=m.consts.length:=by
  obtain ⟨o,l,c,h,h2,_⟩:=hcon
  simp only[Value.slice.injEq] at h
  obtain ⟨rfl,rfl,rfl⟩:=h
  exact h2
 obtain ⟨op,lp,kp,rfl⟩:=hcod.form
 obtain ⟨hlp,hkp,hmp⟩:=hcod.lens
 obtain ⟨W3,hW3⟩:∃W3,((w.alloc (.cells #[.slice oc lc kc,.slice op lp kp,.int .i64 m.body.op,.int .i64 m.body.n,.slice q r u,.slice q' r' u'] 29)).alloc (.map #[] 0)).alloc (.cells #[.int .i64 3,.int .i64 lc,.int .i64 lp,.bool false,.int .i64 0,.map (some (w.heap.size+1))] 70)=W3:=⟨_,rfl⟩
 have HB3:=zh (show Below w.heap.size w W3 from by rw[←hW3];exact ((Below.one w _).trans ((Below.one _ _).mono (by simp))).trans ((Below.one _ _).mono (by simp;omega)))
 have HM3:=zh (show BoxL W3 w.heap.size 29 [.slice oc lc kc,.slice op lp kp,.int .i64 m.body.op,.int .i64 m.body.n,.slice q r u,.slice q' r' u'] from by rw[←hW3];exact ((BoxL.new rfl _ _).alloc _).alloc _)
 have HC3:=zh (show ChkM W3 (w.heap.size+1+1) (w.heap.size+1) lc lp false 0 [] from by
  rw[←hW3]
  refine ⟨BoxL.new (by simp) _ _,?_,rfl⟩
  have h:=MapVB.new (w.alloc (.cells #[.slice oc lc kc,.slice op lp kp,.int .i64 m.body.op,.int .i64 m.body.n,.slice q r u,.slice q' r' u'] 29))
  rw[show (w.alloc (.cells #[.slice oc lc kc,.slice op lp kp,.int .i64 m.body.op,.int .i64 m.body.n,.slice q r u,.slice q' r' u'] 29)).heap.size=w.heap.size+1 by simp] at h
  have e:setOf []=fun _=>false:=by funext x;simp[setOf,Trm.addV]
  rw[e]
  exact h.keep (Below.one _ _))
 have HW:=zh hW3
 have HCON:=zh hcon
 have HCOD:=zh hcod
 have HBODY:=zh hbody
 have HLP:=zh hlp
 have HDC:=zh hd.2
 have hd1:=hd.1
 have hlpn:lp≤1000000:=by omega
 have hlp0:lp≤9223372036854775807:=by omega
 have hsum:m.body.all+((m.codes.map fun c=>c.body.all).sum)≤19000:=hs
 obtain ⟨q1,hq1⟩:∃q1,(m.consts.all fun x=>Dat.right x 0)=q1:=⟨_,rfl⟩
 obtain ⟨q2,hq2⟩:∃q2,(Trm.wf lc lp false m.body (fun _=>false)&&Trm.newB (fun _=>false) ([]++m.body.bnd))=q2:=⟨_,rfl⟩
 have HR:=zh (show (if (q1&&(q2&&Mdl.codesB lc lp m.codes (setOf m.body.bnd))) then (0:Int) else 5)=E from by
  rw[←hE,Mdl.okB,←hq1,←hq2,List.nil_append,hlc,hlp];rfl)
 have HK1:=zh (zdy m.consts (.slice oc lc kc) B W3 (HCON.out.kept (HB3.out.mono hB)) (by have:=HB3.out.size;omega))
 rw[hq1] at HK1
 have HQ2:=zh hq2
 have hmm:=@run_makeMap prog
 clear hW3 hcon hcod hbody hlp hlc hd hE hq1 hq2 hbn hs hn hkp hmp
 go_enter func13,ntmps13
 go_upto_region 2 with fail
 rw[HW.out]
 have m0:=HM3.out.cell 0 rfl
 have ml:=HM3.out.lt
 go_wp2_with fail
 with_reducible refine HK1.out.mono ?_
 rintro e w4 ⟨rfl,hb4⟩
 have HB4:=zh (HB3.out.trans (hb4.mono HB3.out.size))
 have HM4:=zh (HM3.out.keep hb4)
 have HC4:=zh (HC3.out.keep hb4)
 clear hb4 HK1 m0 ml HC3 HM3 HW
 cases q1 with
 | false=>
  obtain rfl:(5:Int)=E:=HR.out
  go_wp2_with fail
  all_goals go_ret
  all_goals exact ⟨rfl,HB4.out⟩
 | true=>
  have m2:=HM4.out.cell 2 rfl
  have m3:=HM4.out.cell 3 rfl
  have m4:=HM4.out.cell 4 rfl
  have m5:=HM4.out.cell 5 rfl
  have ml:=HM4.out.lt
  have HB5:=zh (HB4.out.trans ((Below.one w4 (.map #[] 0)).mono HB4.out.size))
  have hz4:w.heap.size+1+1<w4.heap.size:=HC4.out.box.lt
  have HK2:=zh (zb7 m.body _ _ _ _ B (w.heap.size+1+1) (w.heap.size+1) w4.heap.size lc lp 0 false [] (fun _=>false) 0 (w4.alloc (.map #[] 0)) (TrmR.kept (HB5.out.mono hB) _ _ HBODY.out) (fun b hb=>by rcases hb with rfl | rfl | rfl<;>omega) (by have:=HB5.out.size;omega) HC4.out.scoped (fun _ h=>by cases h) (by omega) (by omega) (by omega) (by omega))
  rw[HQ2.out] at HK2
  go_wp2_with fail
  with_reducible refine HK2.out.mono ?_
  rintro e w5 ⟨rfl,ht5,hg5,hx5⟩
  have HBT:=zh (HB5.out.trans (ht5.below (fun b hb=>by rcases hb with rfl | rfl | rfl<;>omega) HB5.out.size))
  have HM5:=zh (ht5.box (HM4.out.alloc (.map #[] 0)) (fun hb=>by rcases hb with h | h | h<;>omega))
  have HG5:=zh hg5
  clear ht5 hg5 hx5 HK2 m2 m3 m4 m5 ml HM4 HC4
  cases q2 with
  | false=>
   obtain rfl:(5:Int)=E:=HR.out
   go_wp2_with fail
   all_goals go_ret
   all_goals exact ⟨rfl,HBT.out⟩
  | true=>
   obtain ⟨l0,hp0,hcs0⟩:=HG5.out rfl
   have HM0:=zh hcs0.unscoped
   have HR0:=zh (show (if Mdl.codesB lc lp m.codes (setOf l0) then (0:Int) else 5)=E from by
    have h:=HR.out
    rw[show setOf m.body.bnd=setOf l0 from (Trm.addV_perm (by simpa using hp0) _).symm] at h
    simpa using h)
   have c3:=HM0.out.box.cell 3 rfl
   have cz:=HM0.out.box.free 3
   have cl:=HM0.out.box.lt
   have HMF:=zh HM0.out.freed
   have HB6:=zh (HBT.out.setCell (p:=⟨w.heap.size+1+1,3,none⟩) (by dsimp only;omega) (.bool true))
   have HM6:=zh (HM5.out.other ⟨w.heap.size+1+1,3,none⟩ (.bool true) (by dsimp only;omega))
   clear hp0 hcs0 HG5
   go_upto_region 5 with fail
   clear c3 cz cl
   obtain ⟨W6,hW6⟩:∃W6,w5.setCell ⟨w.heap.size+1+1,3,none⟩ (.bool true)=W6:=⟨_,rfl⟩
   rw[hW6] at HMF HB6 HM6 ⊢
   clear hW6 HM0 HM5 HBT HB5 HB4
   have m1:=HM6.out.cell 1 rfl
   have ml:=HM6.out.lt
   go_wp2_with fail
   go_loopg [34] lp (fun G i wr=>∃(j:Nat) (l:List Int),G=lp-j∧j≤lp∧i=.int .i64 j∧Hid (ChkM wr (w.heap.size+1+1) (w.heap.size+1) lc lp true ((0:Int)+(m.body.all:Nat)+(((m.codes.take j).map fun c=>c.body.all).sum:Nat)) l)∧Hid ((if Mdl.codesB lc lp (m.codes.drop j) (setOf l) then (0:Int) else 5)=E)∧Hid (BoxL wr w.heap.size 29 [.slice oc lc kc,.slice op lp kp,.int .i64 m.body.op,.int .i64 m.body.n,.slice q r u,.slice q' r' u'])∧Hid (Below w.heap.size w wr))
   case atStart=>exact ⟨0,l0,rfl,by omega,rfl,zh (by simpa using HMF.out),HR0,HM6,HB6⟩
   case round=>
    obtain ⟨j,l,rfl,hj,rfl,HCM,HRJ,HMR,HBR⟩:=hrel
    clear m1 ml HMF HM6 HB6 HR0
    by_cases hjl:j<lp
    ·obtain ⟨c,hx⟩:∃c,m.codes[j]?=some c:=⟨_,List.getElem?_eq_getElem (by rw[←HLP.out];exact hjl)⟩
     obtain ⟨b,off,cs,ho,_,hcl,hcell,hcr⟩:=HCOD.out.at (HBR.out.mono hB) hx
     subst ho
     obtain ⟨ov,lv,cv,p1,p2,p3,p4,p5,p6,rfl,hvv,hir⟩:=zd6 hcr
     have e0:=hcell 0 _ rfl
     have e1:=hcell 1 _ rfl
     have e2:=hcell 2 _ rfl
     have e3:=hcell 3 _ rfl
     have e4:=hcell 4 _ rfl
     have e5:=hcell 5 _ rfl
     simp only[Nat.add_zero] at e0
     have hbl:=zac e0
     have hsums:=zcp m.codes j c hx
     have hcd:=HDC.out c (List.mem_of_getElem? hx)
     have HDR:=zh (show m.codes.drop j=c::m.codes.drop (j+1) from by
      obtain ⟨h1,h2⟩:=List.getElem?_eq_some_iff.1 hx
      rw[List.drop_eq_getElem_cons h1,h2])
     have HST:=zh (zbR (nc:=lc) (nk:=lp) (c:=c) (l:=m.codes.drop (j+1)) (_b:=[]) (lj:=l) HCM.out.new)
     obtain ⟨W7,hW7⟩:∃W7,(wr.alloc (.cells #[.slice ov lv cv,.bool c.rest,.int .i64 c.body.op,.int .i64 c.body.n,.slice p1 p2 p3,.slice p4 p5 p6] 43)).alloc (.map #[] 0)=W7:=⟨_,rfl⟩
     have HW7:=zh hW7
     have hzr:w.heap.size+1+1<wr.heap.size:=HCM.out.box.lt
     have HB7:=zh (show Below wr.heap.size wr W7 from by rw[←hW7];exact (Below.one wr _).trans ((Below.one _ _).mono (by simp)))
     have HX7:=zh (show BoxL W7 wr.heap.size 43 [.slice ov lv cv,.bool c.rest,.int .i64 c.body.op,.int .i64 c.body.n,.slice p1 p2 p3,.slice p4 p5 p6] from by rw[←hW7];exact (BoxL.new rfl _ _).alloc _)
     have HC7:=zh (show ChkS W7 (w.heap.size+1+1) (w.heap.size+1) (wr.heap.size+1) lc lp true ((0:Int)+(m.body.all:Nat)+(((m.codes.take j).map fun c=>c.body.all).sum:Nat)) l (fun _=>false) from by
      rw[←hW7]
      have h:=(HCM.out.keep (Below.one wr (.cells #[.slice ov lv cv,.bool c.rest,.int .i64 c.body.op,.int .i64 c.body.n,.slice p1 p2 p3,.slice p4 p5 p6] 43))).scoped
      rwa[show (wr.alloc (.cells #[.slice ov lv cv,.bool c.rest,.int .i64 c.body.op,.int .i64 c.body.n,.slice p1 p2 p3,.slice p4 p5 p6] 43)).heap.size=wr.heap.size+1 by simp] at h)
     have HBW7:=zh (HBR.out.trans (HB7.out.mono HBR.out.size))
     have HM7:=zh (HMR.out.keep HB7.out)
     have HVV:=zh (hvv.kept (HBW7.out.mono hB) fun _ _ _ h=>h)
     have HIR:=zh (TrmR.kept (HBW7.out.mono hB) _ _ hir)
     have HLV:=zh hvv.lens.1
     obtain ⟨size,hsz⟩:∃size,(0:Int)+(m.body.all:Nat)+(((m.codes.take j).map fun c=>c.body.all).sum:Nat)=size:=⟨_,rfl⟩
     rw[hsz] at HC7
     have HSZ:=zh (show (0:Int)+(m.body.all:Nat)+(((m.codes.take (j+1)).map fun c=>c.body.all).sum:Nat)=size+c.body.all from by rw[←hsz,hsums.1];omega)
     have hs0:0≤size∧size+c.body.all≤19000:=by omega
     have m1:=HMR.out.cell 1 rfl
     have ml:=HMR.out.lt
     clear hW7 hx hcell hcl hcr hvv hir hsums hsz
     have HBI:=zh (zdB (w.heap.size+1+1) (w.heap.size+1) (wr.heap.size+1) lc lp true size l c.v (fun _=>false) B W7 ov lv cv HVV.out (fun b hb=>by rcases hb with rfl | rfl | rfl<;>omega) (by have:=HBW7.out.size;omega) HC7.out)
     obtain ⟨q3,hq3⟩:∃q3,Trm.newB (fun _=>false) (l++c.v)=q3:=⟨_,rfl⟩
     rw[hq3] at HBI
     have HQ3:=zh hq3
     clear hq3
     go_upto_region 9 with fail
     rw[HW7.out]
     clear e0 e1 e2 e3 e4 e5 m1 ml HW7
     have x0:=HX7.out.cell 0 rfl
     have x1:=HX7.out.cell 1 rfl
     have xl:=HX7.out.lt
     have g0:((lv:Int)==0)=decide (c.v.length=0):=by rw[HLV.out,Bool.eq_iff_iff];simp
     have HSTV:=zh (show (if ((!c.rest || decide (0<c.v.length))&&(Trm.newB (fun _=>false) (l++c.v++c.body.bnd)&&(Trm.wf lc lp true c.body (Trm.addV (fun _=>false) c.v)&&Mdl.codesB lc lp (m.codes.drop (j+1)) (setOf (l++c.v++c.body.bnd))))) then (0:Int) else 5)=E from by
      have h:=HRJ.out
      rw[HDR.out,HST.out] at h
      exact h)
     by_cases hbad:c.rest=true∧c.v.length=0
     ·obtain rfl:(5:Int)=E:=by
       have h:=HSTV.out
       rw[hbad.1,decide_eq_false (show ¬0<c.v.length by omega)] at h
       exact h
      rw[hbad.1] at x1
      rw[decide_eq_true hbad.2] at g0
      go_wp2_with fail
      all_goals go_ret
      all_goals exact ⟨rfl,HBW7.out⟩
     have HGU:=zh (show (!c.rest || decide (0<c.v.length))=true from by
      cases hr:c.rest with
      | false=>rfl
      | true=>
       have:c.v.length≠0:=fun h=>hbad ⟨hr,h⟩
       simp;omega)
     have HREST:∃g1:Bool,c.rest=g1∧(g1=true→((lv:Int)==0)=false):=⟨c.rest,rfl,fun h=>by
      rw[g0]
      exact decide_eq_false fun h'=>hbad ⟨h,h'⟩⟩
     obtain ⟨g1,hg1,hg2⟩:=HREST
     rw[hg1] at x1
     clear g0 hbad hg1
     cases g1 with
     | false=>
      clear hg2
      go_wp2_with fail
      with_reducible refine HBI.out.mono ?_
      rintro e w8 ⟨rfl,ht8,hg8,hb8⟩
      have HT8:=zh ht8
      have HG8:=zh hg8
      have HBW8:=zh (HBW7.out.trans (ht8.below (fun b hb=>by rcases hb with rfl | rfl | rfl<;>omega) HBW7.out.size))
      have HX8:=zh (ht8.box HX7.out (fun hb=>by rcases hb with h | h | h<;>omega))
      have HM8:=zh (ht8.box HM7.out (fun hb=>by rcases hb with h | h | h<;>omega))
      have HIR8:=zh (TrmR.kept (ht8.below (b0:=B) (fun b hb=>by rcases hb with rfl | rfl | rfl<;>omega) (by have:=HBW7.out.size;omega)) _ _ HIR.out)
      clear ht8 hg8 hb8 HBI x0 x1 xl
      cases q3 with
      | false=>
       obtain rfl:(5:Int)=E:=by
        have h:=HSTV.out
        rw[HGU.out,show Trm.newB (fun _=>false) (l++c.v++c.body.bnd)=false from by
         cases hq:Trm.newB (fun _=>false) (l++c.v++c.body.bnd) with
         | false=>rfl
         | true=>
          have:=zaO hq
          rw[HQ3.out] at this
          cases this] at h
        exact h
       go_wp2_with fail
       all_goals go_ret
       all_goals exact ⟨rfl,HBW8.out⟩
      | true=>
       have HC8:=zh (HG8.out rfl)
       have x2:=HX8.out.cell 2 rfl
       have x3:=HX8.out.cell 3 rfl
       have x4:=HX8.out.cell 4 rfl
       have x5:=HX8.out.cell 5 rfl
       have xl:=HX8.out.lt
       have HRT:=zh (zb7 c.body _ _ _ _ B (w.heap.size+1+1) (w.heap.size+1) (wr.heap.size+1) lc lp size true (l++c.v) (Trm.addV (fun _=>false) c.v) 0 w8 HIR8.out (fun b hb=>by rcases hb with rfl | rfl | rfl<;>omega) (by have:=HBW8.out.size;omega) HC8.out (fun x hx=>by
        simp only[Trm.addV,Bool.false_or,List.contains_eq_mem,decide_eq_true_eq] at hx
        exact List.mem_append_right _ hx) hs0.1 (by omega) (by omega) (by omega))
       obtain ⟨q4,hq4⟩:∃q4,(Trm.wf lc lp true c.body (Trm.addV (fun _=>false) c.v)&&Trm.newB (fun _=>false) (l++c.v++c.body.bnd))=q4:=⟨_,rfl⟩
       rw[hq4] at HRT
       have HQ4:=zh hq4
       clear hq4
       go_wp2_with fail
       with_reducible refine HRT.out.mono ?_
       rintro e w9 ⟨rfl,ht9,hg9,hb9⟩
       have HG9:=zh hg9
       have HBW9:=zh (HBW8.out.trans (ht9.below (fun b hb=>by rcases hb with rfl | rfl | rfl<;>omega) HBW8.out.size))
       have HM9:=zh (ht9.box HM8.out (fun hb=>by rcases hb with h | h | h<;>omega))
       clear ht9 hg9 hb9 HRT x2 x3 x4 x5 xl
       cases q4 with
       | false=>
        obtain rfl:(5:Int)=E:=by
         have h:=HSTV.out
         have hq:=HQ4.out
         rw[HGU.out] at h
         revert h hq
         cases Trm.newB (fun _=>false) (l++c.v++c.body.bnd)<;>cases Trm.wf lc lp true c.body (Trm.addV (fun _=>false) c.v)<;>simp
        go_wp2_with fail
        all_goals go_ret
        all_goals exact ⟨rfl,HBW9.out⟩
       | true=>
        obtain ⟨l2,hp2,hcs2⟩:=HG9.out rfl
        have HCM2:=zh (show ChkM w9 (w.heap.size+1+1) (w.heap.size+1) lc lp true ((0:Int)+(m.body.all:Nat)+(((m.codes.take (j+1)).map fun c=>c.body.all).sum:Nat)) l2 from by
         rw[HSZ.out]
         exact hcs2.unscoped)
        have HRJ2:=zh (show (if Mdl.codesB lc lp (m.codes.drop (j+1)) (setOf l2) then (0:Int) else 5)=E from by
         have h:=HSTV.out
         have hq:=HQ4.out
         rw[Bool.and_eq_true] at hq
         rw[HGU.out,hq.1,hq.2,Bool.true_and,Bool.true_and,Bool.true_and,show setOf (l++c.v++c.body.bnd)=setOf l2 from (Trm.addV_perm hp2 _).symm] at h
         exact h)
        clear hp2 hcs2
        go_wp2_with fail
        go_roundg (lp-(j+1))
        case measure=>omega
        case rel=>exact ⟨j+1,l2,rfl,by omega,by go_num,HCM2,HRJ2,HM9,HBW9⟩
     | true=>
      have g2:=hg2 rfl
      clear hg2
      go_wp2_with fail
      with_reducible refine HBI.out.mono ?_
      rintro e w8 ⟨rfl,ht8,hg8,hb8⟩
      have HT8:=zh ht8
      have HG8:=zh hg8
      have HBW8:=zh (HBW7.out.trans (ht8.below (fun b hb=>by rcases hb with rfl | rfl | rfl<;>omega) HBW7.out.size))
      have HX8:=zh (ht8.box HX7.out (fun hb=>by rcases hb with h | h | h<;>omega))
      have HM8:=zh (ht8.box HM7.out (fun hb=>by rcases hb with h | h | h<;>omega))
      have HIR8:=zh (TrmR.kept (ht8.below (b0:=B) (fun b hb=>by rcases hb with rfl | rfl | rfl<;>omega) (by have:=HBW7.out.size;omega)) _ _ HIR.out)
      clear ht8 hg8 hb8 HBI x0 x1 xl
      cases q3 with
      | false=>
       obtain rfl:(5:Int)=E:=by
        have h:=HSTV.out
        rw[HGU.out,show Trm.newB (fun _=>false) (l++c.v++c.body.bnd)=false from by
         cases hq:Trm.newB (fun _=>false) (l++c.v++c.body.bnd) with
         | false=>rfl
         | true=>
          have:=zaO hq
          rw[HQ3.out] at this
          cases this] at h
        exact h
       go_wp2_with fail
       all_goals go_ret
       all_goals exact ⟨rfl,HBW8.out⟩
      | true=>
       have HC8:=zh (HG8.out rfl)
       have x2:=HX8.out.cell 2 rfl
       have x3:=HX8.out.cell 3 rfl
       have x4:=HX8.out.cell 4 rfl
       have x5:=HX8.out.cell 5 rfl
       have xl:=HX8.out.lt
       have HRT:=zh (zb7 c.body _ _ _ _ B (w.heap.size+1+1) (w.heap.size+1) (wr.heap.size+1) lc lp size true (l++c.v) (Trm.addV (fun _=>false) c.v) 0 w8 HIR8.out (fun b hb=>by rcases hb with rfl | rfl | rfl<;>omega) (by have:=HBW8.out.size;omega) HC8.out (fun x hx=>by
        simp only[Trm.addV,Bool.false_or,List.contains_eq_mem,decide_eq_true_eq] at hx
        exact List.mem_append_right _ hx) hs0.1 (by omega) (by omega) (by omega))
       obtain ⟨q4,hq4⟩:∃q4,(Trm.wf lc lp true c.body (Trm.addV (fun _=>false) c.v)&&Trm.newB (fun _=>false) (l++c.v++c.body.bnd))=q4:=⟨_,rfl⟩
       rw[hq4] at HRT
       have HQ4:=zh hq4
       clear hq4
       go_wp2_with fail
       with_reducible refine HRT.out.mono ?_
       rintro e w9 ⟨rfl,ht9,hg9,hb9⟩
       have HG9:=zh hg9
       have HBW9:=zh (HBW8.out.trans (ht9.below (fun b hb=>by rcases hb with rfl | rfl | rfl<;>omega) HBW8.out.size))
       have HM9:=zh (ht9.box HM8.out (fun hb=>by rcases hb with h | h | h<;>omega))
       clear ht9 hg9 hb9 HRT x2 x3 x4 x5 xl
       cases q4 with
       | false=>
        obtain rfl:(5:Int)=E:=by
         have h:=HSTV.out
         have hq:=HQ4.out
         rw[HGU.out] at h
         revert h hq
         cases Trm.newB (fun _=>false) (l++c.v++c.body.bnd)<;>cases Trm.wf lc lp true c.body (Trm.addV (fun _=>false) c.v)<;>simp
        go_wp2_with fail
        all_goals go_ret
        all_goals exact ⟨rfl,HBW9.out⟩
       | true=>
        obtain ⟨l2,hp2,hcs2⟩:=HG9.out rfl
        have HCM2:=zh (show ChkM w9 (w.heap.size+1+1) (w.heap.size+1) lc lp true ((0:Int)+(m.body.all:Nat)+(((m.codes.take (j+1)).map fun c=>c.body.all).sum:Nat)) l2 from by
         rw[HSZ.out]
         exact hcs2.unscoped)
        have HRJ2:=zh (show (if Mdl.codesB lc lp (m.codes.drop (j+1)) (setOf l2) then (0:Int) else 5)=E from by
         have h:=HSTV.out
         have hq:=HQ4.out
         rw[Bool.and_eq_true] at hq
         rw[HGU.out,hq.1,hq.2,Bool.true_and,Bool.true_and,Bool.true_and,show setOf (l++c.v++c.body.bnd)=setOf l2 from (Trm.addV_perm hp2 _).symm] at h
         exact h)
        clear hp2 hcs2
        go_wp2_with fail
        go_roundg (lp-(j+1))
        case measure=>omega
        case rel=>exact ⟨j+1,l2,rfl,by omega,by go_num,HCM2,HRJ2,HM9,HBW9⟩
    ·obtain rfl:j=lp:=by omega
     obtain rfl:(0:Int)=E:=by
      have h:=HRJ.out
      rw[List.drop_eq_nil_of_le (by rw[←HLP.out];exact Nat.le_refl _)] at h
      exact h
     go_wp2_with fail
     all_goals go_ret
     all_goals exact ⟨rfl,HBR.out⟩
end
section
open Go Go.RowKit Mk
theorem zaU {W W':World} {S:Nat→Prop} {base n size:Nat} {e:TypeId} {v:Value} {xs:List Value} (h:W.ownsRow base e size v n xs) (ht:Turned S W W') (hn:∀b,v.ownBlock=some b→¬S b):W'.ownsRow base e size v n xs:=zaM h fun c hc=>ht.block c (zan h hc) (hn c hc)
theorem zbS {W w3:World} {X:Obj} {r:Option Nat} (hg:(W.alloc X).grownBy w3 r):Turned (fun b=>r=some b) W w3:=(Turned.of_below (Below.one W X)).next (Turned.grown hg (fun _ h=>h))
theorem zep {W w3:World} {B base mb g cap:Nat} {K:KV} {X:Nat→Prop} {s:MSt} {O:Obj} {xs:List Value} (h:ZkIn W B base mb K X s) (hg:(W.alloc O).grownBy w3 K.v.ownBlock) (_ho:w3.ownsRow base 3 1 (.slice (some ⟨g,0,none⟩) (s.vars.length+1) cap) (s.vars.length+1) xs) :
  BoxL w3 mb 86 [K.c,.int .i64 s.regs,K.v,K.a]∧BoxL (w3.setCell ⟨mb,2,none⟩ (.slice (some ⟨g,0,none⟩) (s.vars.length+1) cap)) mb 86 [K.c,.int .i64 s.regs,.slice (some ⟨g,0,none⟩) (s.vars.length+1) cap,K.a] ∧
   (w3.setCell ⟨mb,2,none⟩ (.slice (some ⟨g,0,none⟩) (s.vars.length+1) cap)).ownsRow base 3 1 K.a s.vars.length (s.vars.map fun p=>Value.int .i64 p.2)∧Turned (fun b=>b=mb∨K.v.ownBlock=some b) W (w3.setCell ⟨mb,2,none⟩ (.slice (some ⟨g,0,none⟩) (s.vars.length+1) cap)):=by
 have T1:=zbS hg
 have b3:=T1.box h.st.box (fun e=>zap h.st.vars e h.st.box (by decide) rfl)
 have T2:Turned (fun b=>b=mb) w3 (w3.setCell ⟨mb,2,none⟩ (.slice (some ⟨g,0,none⟩) (s.vars.length+1) cap)):=Turned.set _ _ _ rfl
 have r3:=zaU h.st.regs T1 (fun b hb e=>h.st.ne b e hb)
 refine ⟨b3,b3.set 2 _,zaU r3 T2 (fun b hb e=>zap r3 hb b3 (by decide) e),(T1.wider fun b _ h=>.inr h).next (T2.wider fun b _ h=>.inl h)⟩
theorem ziE {W w3 w7:World} {B base mb g cap g2 cap2:Nat} {K:KV} {X:Nat→Prop} {s:MSt} {O O2:Obj} {v r:Int} (h:ZkIn W B base mb K X s) (hv:I64 v) (hr:I64 r) (hg:(W.alloc O).grownBy w3 K.v.ownBlock) (ho:w3.ownsRow base 3 1 (.slice (some ⟨g,0,none⟩) (s.vars.length+1) cap) (s.vars.length+1) ((s.vars.map fun p=>Value.int .i64 p.1)++([.int .i64 v]:List Value))) (hl:K.v.ownBlock=some g∨g=W.heap.size+1)
  (hg2:((w3.setCell ⟨mb,2,none⟩ (.slice (some ⟨g,0,none⟩) (s.vars.length+1) cap)).alloc O2).grownBy w7 K.a.ownBlock) (ho2:w7.ownsRow base 3 1 (.slice (some ⟨g2,0,none⟩) (s.vars.length+1) cap2) (s.vars.length+1) ((s.vars.map fun p=>Value.int .i64 p.2)++([.int .i64 r]:List Value))) (hl2:K.a.ownBlock=some g2∨g2=w3.heap.size+1) :
  BoxL w7 mb 86 [K.c,.int .i64 s.regs,.slice (some ⟨g,0,none⟩) (s.vars.length+1) cap,K.a]∧ZkGo B base mb K ⟨K.c,.slice (some ⟨g,0,none⟩) (s.vars.length+1) cap,.slice (some ⟨g2,0,none⟩) (s.vars.length+1) cap2⟩ X (s.bind [v] [r]) W (w7.setCell ⟨mb,3,none⟩ (.slice (some ⟨g2,0,none⟩) (s.vars.length+1) cap2)):=by
 obtain ⟨b3,b4,r4,T4⟩:=zep h hg ho
 obtain ⟨W4,hW4⟩:∃W4,w3.setCell ⟨mb,2,none⟩ (.slice (some ⟨g,0,none⟩) (s.vars.length+1) cap)=W4:=⟨_,rfl⟩
 have hz34:w3.heap.size=W4.heap.size:=by rw[←hW4,World.size_setCell]
 have v4:W4.ownsRow base 3 1 (.slice (some ⟨g,0,none⟩) (s.vars.length+1) cap) (s.vars.length+1) ((s.vars.map fun p=>Value.int .i64 p.1)++([.int .i64 v]:List Value)):=by
  rw[←hW4]
  exact zaU ho (Turned.set (S:=fun b=>b=mb) _ _ _ rfl) (fun b hb e=>zap ho hb b3 (by decide) e)
 rw[hW4] at b4 r4 T4 hg2
 have hgl:g<W4.heap.size:=zan v4 rfl
 have hW0:=T4.size
 have hgnew:g<W.heap.size→K.v.ownBlock=some g:=fun hb=>hl.elim id fun e=>by omega
 have hne2:∀b,K.a.ownBlock=some b→b≠g:=fun b hb e=>by
  subst e
  rcases hl with hl | hl
  ·exact h.st.ne b hl hb
  ·have:=zan h.st.regs hb
   omega
 have T5:Turned (fun b=>K.a.ownBlock=some b) W4 w7:=zbS hg2
 have b7:=T5.box b4 (fun e=>zap r4 e b4 (by decide) rfl)
 have T7:Turned (fun b=>b=mb) w7 (w7.setCell ⟨mb,3,none⟩ (.slice (some ⟨g2,0,none⟩) (s.vars.length+1) cap2)):=Turned.set _ _ _ rfl
 refine ⟨b7,?_⟩
 have v7:=zaU v4 T5 (fun b hb e=>hne2 b e (by simpa[Value.ownBlock] using hb.symm))
 have T:Turned (fun b=>b=mb∨K.v.ownBlock=some b∨K.a.ownBlock=some b) W (w7.setCell ⟨mb,3,none⟩ (.slice (some ⟨g2,0,none⟩) (s.vars.length+1) cap2)):=((T4.wider fun b _ h=>h.imp id .inl).next (T5.wider fun b _ h=>.inr (.inr h))).next (T7.wider fun b _ h=>.inl h)
 have hTZ:Turned (SZ mb K) W (w7.setCell ⟨mb,3,none⟩ (.slice (some ⟨g2,0,none⟩) (s.vars.length+1) cap2)):=T.wider fun b _ h=>h.elim .inl fun h=>.inr (.inr h)
 have hless:∀b,b<W.heap.size→SZ mb ⟨K.c,.slice (some ⟨g,0,none⟩) (s.vars.length+1) cap,.slice (some ⟨g2,0,none⟩) (s.vars.length+1) cap2⟩ b→SZ mb K b:=fun b hb hs=>by
  rcases hs with hs | hs | hs | hs
  ·exact .inl hs
  ·exact .inr (.inl hs)
  ·have e:g=b:=by simpa[Value.ownBlock] using hs
   subst e
   exact .inr (.inr (.inl (hgnew hb)))
  ·have e:g2=b:=by simpa[Value.ownBlock] using hs
   subst e
   rcases hl2 with h2 | h2
   ·exact .inr (.inr (.inr h2))
   ·omega
 obtain ⟨xs,hr0,hc0⟩:=h.st.row
 have hbv:(s.bind [v] [r]).vars=s.vars++[(v,r)]:=rfl
 refine ⟨⟨⟨b7.set 3 _,⟨xs,zaU hr0 T (fun b hb hs=>?_),hc0.mono fun x _ cs hx=>hx.kept hTZ (fun _ _ h=>.inl h) (fun b hb h=>h.imp (hless b hb) id)⟩,?_,?_,fun b hb hb2=>?_,fun p hp=>?_⟩,h.b1,h.b2,Nat.le_trans h.b4 T.size,fun b hb=>Nat.lt_of_lt_of_le (h.bx b hb) T.size⟩,hTZ,hless,hTZ.below h.low h.size⟩
 ·rcases hs with hs | hs | hs
  ·exact zap hr0 hb h.st.box (by decide) hs
  ·exact zbm hr0 hb h.st.vars hs (by decide) rfl
  ·exact zbm hr0 hb h.st.regs hs (by decide) rfl
 ·rw[hbv,List.length_append,List.map_append]
  exact zaU v7 T7 (fun b hb e=>zap v7 hb b7 (by decide) e)
 ·rw[hbv,List.length_append,List.map_append]
  exact zaU ho2 T7 (fun b hb e=>zap ho2 hb b7 (by decide) e)
 ·have e1:g=b:=by simpa[Value.ownBlock] using hb
  have e2:g2=b:=by simpa[Value.ownBlock] using hb2
  subst e1
  rcases hl2 with h2 | h2
  ·exact hne2 g2 h2 e2
  ·omega
 ·rw[hbv] at hp
  rcases List.mem_append.1 hp with hp | hp
  ·exact h.st.i64 p hp
  ·rw[List.mem_singleton.1 hp]
   exact ⟨hv,hr⟩
theorem zcD {B base mb:Nat} {K:KV} {X:Nat→Prop} {s:MSt} (v r:Int) (W:World) (h:ZkIn W B base mb K X s) (hn:s.vars.length≤2000000) (hv:I64 v) (hr:I64 r) :
  Calls prog 38 #[.pointer (some ⟨mb,0,none⟩),.int .i64 v,.int .i64 r] W fun e w'=>e=.returned (.tuple #[])∧∃K',ZkGo B base mb K K' X (s.bind [v] [r]) W w':=by
 obtain ⟨ov,cv,hkv⟩:=zbg h.st.vars
 obtain ⟨oa,ca,hka⟩:=zbg h.st.regs
 obtain ⟨oc,cc,hkc⟩:∃oc cc,K.c=.slice oc s.code.length cc:=by obtain ⟨xs,hr,_⟩:=h.st.row;exact zbg hr
 obtain ⟨i0,hi0,hz0,hz1,hz2⟩:=info_parts zbu
 have HH:=zh h
 have HV:=zh h.st.vars
 have bx:=h.st.box
 rw[hkv,hka,hkc] at bx
 have x2:=bx.cell 2 rfl
 have xz:=bx.free 2
 have xl:=bx.lt
 have b4:=h.b4
 have HKV:=zh hkv
 have HKA:=zh hka
 have HKC:=zh hkc
 have HI:=zh hv
 have HJ:=zh hr
 clear h hkv hka hkc bx hv hr
 go_enter func38,ntmps38
 go_wp2_with (at_builtin;refine wpList_append_lies _ rfl (.tmp 10) (.tmp 12) 24 rfl base 3 i0 (.int .i64 0) 1 8 underlying24 hi0 hz0 hz1 hz2 rfl (by decide) (.slice ov s.vars.length cv) s.vars.length _ rfl ((HKV.out ▸ HV.out).alloc _) ⟨W.heap.size,0,none⟩ 1 1 [.int .i64 v] rfl rfl (zaS W _ _) (by intro u hu;simp only[List.mem_cons,List.not_mem_nil,or_false] at hu;subst hu;rfl) (by decide) (by unfold maxLen;omega) (by omega) (by simp;omega) (W.heap.size+1) (by simp) ?_)
 intro g cap w3 hown hgrow hlie hglt
 rw[←HKV.out] at hgrow hlie
 obtain ⟨b3,b4',r4,T4⟩:=zep HH.out hgrow hown
 have HG:=zh hgrow
 have HO:=zh hown
 have HL:=zh hlie
 have HB4:=zh b4'
 have HR4:=zh r4
 have hz4:=T4.size
 rw[HKC.out,HKV.out,HKA.out] at b3
 rw[HKC.out,HKA.out] at b4'
 have y2:=b3.cell 2 rfl
 have yz:=b3.free 2
 have yl:=b3.lt
 clear hgrow hlie hown b3 r4 T4 x2 xz xl
 go_upto_region 1 with fail
 obtain ⟨W4,hW4⟩:∃W4,w3.setCell ⟨mb,2,none⟩ (.slice (some ⟨g,0,none⟩) (s.vars.length+1) cap)=W4:=⟨_,rfl⟩
 rw[hW4] at hz4 b4' ⊢
 have HW4:=zh hW4
 have hr4:=HR4.out
 rw[hW4,HKA.out] at hr4
 have HR5:=zh hr4
 have x3:=b4'.cell 3 rfl
 have xz:=b4'.free 3
 have xl:=b4'.lt
 clear y2 yz yl hW4 hr4 b4'
 go_wp2_with (at_builtin;refine wpList_append_lies _ rfl (.tmp 20) (.tmp 22) 24 rfl base 3 i0 (.int .i64 0) 1 8 underlying24 hi0 hz0 hz1 hz2 rfl (by decide) (.slice oa s.vars.length ca) s.vars.length _ rfl (HR5.out.alloc _) ⟨W4.heap.size,0,none⟩ 1 1 [.int .i64 r] rfl rfl (zaS W4 _ _) (by intro u hu;simp only[List.mem_cons,List.not_mem_nil,or_false] at hu;subst hu;rfl) (by decide) (by unfold maxLen;omega) (by omega) (by simp;omega) (W4.heap.size+1) (by simp) ?_)
 intro g2 cap2 w7 hown2 hgrow2 hlie2 hglt2
 rw[←HKA.out] at hgrow2 hlie2
 have he:=ziE HH.out HI.out HJ.out HG.out HO.out HL.out (HW4.out ▸ hgrow2) hown2 (by rw[←HW4.out] at hlie2;simpa using hlie2)
 have b7:=he.1
 rw[HKC.out,HKA.out] at b7
 have HE:=zh he.2
 have y3:=b7.cell 3 rfl
 have yz:=b7.free 3
 have yl:=b7.lt
 clear hgrow2 hlie2 hown2 he b7 x3 xz xl
 go_wp2_with fail
 go_end0
 exact ⟨rfl,_,HE.out⟩
end
section
open Go Go.RowKit Mk
theorem end_5 (n:Int) (v:List Int) (t:List Trm) (ht:AllC t) (hct:1≤t.length) (c0 c1 c2 c3:Value) (B base mb vb:Nat) (cv:Value) (X:Nat→Prop) (s:MSt) (nc nk:Int) (fr:Bool) (sc:Int→Bool) (W:World)
  (hv:TrmR W B (.mk 5 n v t) [c0,c1,c2,c3]) (hm:MkIn W B base mb vb cv X s) (hw:∀x∈t,Trm.wf nc nk fr x sc=true) (hroom:Room s (2+6*Trm.allL t)) :
  Calls prog 68 #[.pointer (some ⟨mb,0,none⟩),.agg #[c0,c1,c2,c3]] W fun r w'=>r=.returned (.tuple #[])∧∃cv',MkGo B base mb vb cv cv' X (Mk.ended 5 n (Mk.allT Mk.lkL t s).1 (Mk.allT Mk.lkL t s).2) W w':=by
 obtain ⟨W1,hW1⟩:∃W1,W.alloc (.cells #[c0,c1,c2,c3] 27)=W1:=⟨_,rfl⟩
 have hsz:=hm.size
 obtain ⟨ov,lv,cvv,ot,lt,ct,rfl,rfl,rfl,rfl,hn,HBX,HM,HT,HV,HB1,hlt,hlv⟩:=zav W B base mb vb cv X s _ n v t _ _ _ _ hv hm W1 hW1
 have HW:=zh hW1
 have HN:=zh hn
 clear hlt hlv hn
 have HA:=zh (ht (.slice ot lt ct) B base mb vb cv X s nc nk fr sc W1 HT.out HM.out hw (hroom.mono (by omega)))
 have hra:=Mk.Room.allT (k:=2) Mk.lkL_ok t s hroom
 have HPL0:=zh (zae Mk.lkL t s)
 obtain ⟨p,hp⟩:∃p,Mk.allT Mk.lkL t s=p:=⟨_,rfl⟩
 rw[hp] at HA hra HPL0
 rw[hp]
 have HRA:=zh hra
 have e0:=HBX.out.cell 0 rfl
 have e1:=HBX.out.cell 1 rfl
 have e3:=HBX.out.cell 3 rfl
 have el:=HBX.out.lt
 clear hv hm hW1 hw hroom hra hp ht
 go_enter func68,ntmps68
 go_upto_region 1 with fail
 rw[HW.out]
 go_wp2_with fail
 refine HA.out.mono ?_
 rintro r w2 ⟨rv,rfl,cv2,hg2,hi2⟩
 have HG2:=zh hg2
 have HI2:=zh hi2
 have HBX2:=zh (HG2.out.box HM.out HBX.out (by decide) (by decide))
 obtain ⟨ol,ll,cl,rfl⟩:=hi2.1.form
 obtain ⟨hll,hlc,hlm⟩:=hi2.1.lens
 have HLL:=zh hll
 clear hll
 have hcode:p.2.code.length≤1000000:=by have:=HRA.out.1.1;omega
 clear hg2 hi2 e0 e1 e3 el HA
 have e0:=HBX2.out.cell 0 rfl
 have e1:=HBX2.out.cell 1 rfl
 have el:=HBX2.out.lt
 have hll:=HLL.out
 have hpl:=HPL0.out
 obtain ⟨r0,rl,hpe⟩:∃r0 rl,p.1=r0::rl:=by
  cases h:p.1 with
  | nil=>rw[h] at hpl;simp at hpl;omega
  | cons a b=>exact ⟨a,b,rfl⟩
 obtain ⟨gb,goff,hgo,hgb,hgc,hri⟩:=SlC.int (j:=0) HI2.out.1 (x:=r0) (by rw[hpe];rfl)
 subst hgo
 have hgl:=zac hgc
 rw[Nat.add_zero] at hgc
 rw[hpe] at HI2 hll
 simp only[List.length_cons] at hll
 subst hll
 have HRI:=zh hri
 have HPE:=zh hpe
 clear hpl hpe
 go_upto_region 4 with fail
 by_cases hcl1:cl=1
 ·subst hcl1
  have HDR:=zh (IntsM.rest1 HI2.out)
  have HD:=zh ((Below.refl w2.heap.size w2).drew)
  have HDL:=zh (fun (W3:World) (hb:Below w2.heap.size w2 W3)=>zar 19 0 r0 0 rl (some ⟨gb,goff,none⟩) 0 0 W3 (HG2.out.inn.keep hb) hcode (by constructor<;>omega) (by constructor<;>omega) HRI.out (by constructor<;>omega) (HDR.out.below hb))
  refine zaa (Below w2.heap.size w2) 7 (by kernel_rfl) (by kernel_rfl) HD.out ?_
  intro T0 _ WW HWW HWW2
  have z0:∀t,(WW t).cell? _=_:=fun t=>((HWW t).cell (p:=⟨gb,goff,none⟩) hgl).trans hgc
  have HWH:=zh HWW
  clear HWW HWW2
  simp only[List.take_succ_cons,List.take_zero,List.drop_succ_cons,List.drop_zero]
  repeat (go_big_quiet_step (fail))
  refine wpQuiet_nil ?_
  intro t'
  obtain ⟨W3,hW3⟩:∃W3,WW t'=W3:=⟨_,rfl⟩
  have HB3:=zh (show Below w2.heap.size w2 W3 from hW3 ▸ HWH.out t')
  rw[hW3]
  clear z0 hW3 HWH e0 e1 el
  have HL:=zh (HDL.out W3 HB3.out)
  go_wp2_with fail
  with_reducible refine HL.out.mono ?_
  rintro r w3 ⟨fv,rfl,cv3,hg3⟩
  have HG9:=zh (((HG2.out.after HB3.out).next hg3).before HB1.out hsz)
  have hfin:Mk.ended 5 n p.1 p.2=p.2.put ⟨19,0,r0,0,rl⟩:=by rw[HPE.out];rfl
  have HFIN:=zh hfin
  clear hfin hg3 HL hgc hgl
  go_wp2_with fail
  first | go_end0 | (refine bodyPost_ret (results_none rfl _ _ _) rfl ?_)
  exact ⟨rfl,_,by rw[HFIN.out];exact HG9.out⟩
 ·have hcl2:1<cl:=by omega
  have HDR:=zh (IntsM.rest2 HI2.out hcl1)
  have HD:=zh ((Below.refl w2.heap.size w2).drew)
  have HDL:=zh (fun (W3:World) (hb:Below w2.heap.size w2 W3)=>zar 19 0 r0 0 rl (some ⟨gb,goff+1,none⟩) rl.length (cl-1) W3 (HG2.out.inn.keep hb) hcode (by constructor<;>omega) (by constructor<;>omega) HRI.out (by constructor<;>omega) (HDR.out.below hb))
  refine zaa (Below w2.heap.size w2) 7 (by kernel_rfl) (by kernel_rfl) HD.out ?_
  intro T0 _ WW HWW HWW2
  have z0:∀t,(WW t).cell? _=_:=fun t=>((HWW t).cell (p:=⟨gb,goff,none⟩) hgl).trans hgc
  have HWH:=zh HWW
  clear HWW HWW2
  simp only[List.take_succ_cons,List.take_zero,List.drop_succ_cons,List.drop_zero]
  repeat (go_big_quiet_step (fail))
  refine wpQuiet_nil ?_
  intro t'
  obtain ⟨W3,hW3⟩:∃W3,WW t'=W3:=⟨_,rfl⟩
  have HB3:=zh (show Below w2.heap.size w2 W3 from hW3 ▸ HWH.out t')
  rw[hW3]
  clear z0 hW3 HWH e0 e1 el
  have HL:=zh (HDL.out W3 HB3.out)
  go_wp2_with fail
  with_reducible refine HL.out.mono ?_
  rintro r w3 ⟨fv,rfl,cv3,hg3⟩
  have HG9:=zh (((HG2.out.after HB3.out).next hg3).before HB1.out hsz)
  have hfin:Mk.ended 5 n p.1 p.2=p.2.put ⟨19,0,r0,0,rl⟩:=by rw[HPE.out];rfl
  have HFIN:=zh hfin
  clear hfin hg3 HL hgc hgl
  go_wp2_with fail
  first | go_end0 | (refine bodyPost_ret (results_none rfl _ _ _) rfl ?_)
  exact ⟨rfl,_,by rw[HFIN.out];exact HG9.out⟩
theorem zl9 (n:Int) (v:List Int) (t:List Trm) (ht:AllC t) (hct:1≤t.length) (c0 c1 c2 c3:Value) (B base mb vb:Nat) (cv:Value) (X:Nat→Prop) (s:MSt) (nc nk:Int) (fr:Bool) (sc:Int→Bool) (W:World)
  (hv:TrmR W B (.mk 22 n v t) [c0,c1,c2,c3]) (hm:MkIn W B base mb vb cv X s) (hw:∀x∈t,Trm.wf nc nk fr x sc=true) (hroom:Room s (2+6*Trm.allL t)) :
  Calls prog 68 #[.pointer (some ⟨mb,0,none⟩),.agg #[c0,c1,c2,c3]] W fun r w'=>r=.returned (.tuple #[])∧∃cv',MkGo B base mb vb cv cv' X (Mk.ended 22 n (Mk.allT Mk.lkL t s).1 (Mk.allT Mk.lkL t s).2) W w':=by
 obtain ⟨W1,hW1⟩:∃W1,W.alloc (.cells #[c0,c1,c2,c3] 27)=W1:=⟨_,rfl⟩
 have hsz:=hm.size
 obtain ⟨ov,lv,cvv,ot,lt,ct,rfl,rfl,rfl,rfl,hn,HBX,HM,HT,HV,HB1,hlt,hlv⟩:=zav W B base mb vb cv X s _ n v t _ _ _ _ hv hm W1 hW1
 have HW:=zh hW1
 have HN:=zh hn
 clear hlt hlv hn
 have HA:=zh (ht (.slice ot lt ct) B base mb vb cv X s nc nk fr sc W1 HT.out HM.out hw (hroom.mono (by omega)))
 have hra:=Mk.Room.allT (k:=2) Mk.lkL_ok t s hroom
 have HPL0:=zh (zae Mk.lkL t s)
 obtain ⟨p,hp⟩:∃p,Mk.allT Mk.lkL t s=p:=⟨_,rfl⟩
 rw[hp] at HA hra HPL0
 rw[hp]
 have HRA:=zh hra
 have e0:=HBX.out.cell 0 rfl
 have e1:=HBX.out.cell 1 rfl
 have e3:=HBX.out.cell 3 rfl
 have el:=HBX.out.lt
 clear hv hm hW1 hw hroom hra hp ht
 go_enter func68,ntmps68
 go_upto_region 1 with fail
 rw[HW.out]
 go_wp2_with fail
 refine HA.out.mono ?_
 rintro r w2 ⟨rv,rfl,cv2,hg2,hi2⟩
 have HG2:=zh hg2
 have HI2:=zh hi2
 have HBX2:=zh (HG2.out.box HM.out HBX.out (by decide) (by decide))
 obtain ⟨ol,ll,cl,rfl⟩:=hi2.1.form
 obtain ⟨hll,hlc,hlm⟩:=hi2.1.lens
 have HLL:=zh hll
 clear hll
 have hcode:p.2.code.length≤1000000:=by have:=HRA.out.1.1;omega
 clear hg2 hi2 e0 e1 e3 el HA
 have e0:=HBX2.out.cell 0 rfl
 have e1:=HBX2.out.cell 1 rfl
 have el:=HBX2.out.lt
 have hll:=HLL.out
 have hpl:=HPL0.out
 obtain ⟨r0,rl,hpe⟩:∃r0 rl,p.1=r0::rl:=by
  cases h:p.1 with
  | nil=>rw[h] at hpl;simp at hpl;omega
  | cons a b=>exact ⟨a,b,rfl⟩
 obtain ⟨gb,goff,hgo,hgb,hgc,hri⟩:=SlC.int (j:=0) HI2.out.1 (x:=r0) (by rw[hpe];rfl)
 subst hgo
 have hgl:=zac hgc
 rw[Nat.add_zero] at hgc
 rw[hpe] at HI2 hll
 simp only[List.length_cons] at hll
 subst hll
 have HRI:=zh hri
 have HPE:=zh hpe
 clear hpl hpe
 go_upto_region 7 with fail
 by_cases hcl1:cl=1
 ·subst hcl1
  have HDR:=zh (IntsM.rest1 HI2.out)
  have HD:=zh ((Below.refl w2.heap.size w2).drew)
  have HDL:=zh (fun (W3:World) (hb:Below w2.heap.size w2 W3)=>zar 20 0 n r0 rl (some ⟨gb,goff,none⟩) 0 0 W3 (HG2.out.inn.keep hb) hcode (by constructor<;>omega) (by constructor<;>omega) HN.out HRI.out (HDR.out.below hb))
  refine zaa (Below w2.heap.size w2) 9 (by kernel_rfl) (by kernel_rfl) HD.out ?_
  intro T0 _ WW HWW HWW2
  have z0:∀t,(WW t).cell? _=_:=fun t=>((HWW t).cell (p:=⟨W.heap.size,1,none⟩) el).trans e1
  have z1:∀t,(WW t).cell? _=_:=fun t=>((HWW t).cell (p:=⟨gb,goff,none⟩) hgl).trans hgc
  have HWH:=zh HWW
  clear HWW HWW2
  simp only[List.take_succ_cons,List.take_zero,List.drop_succ_cons,List.drop_zero]
  repeat (go_big_quiet_step (fail))
  refine wpQuiet_nil ?_
  intro t'
  obtain ⟨W3,hW3⟩:∃W3,WW t'=W3:=⟨_,rfl⟩
  have HB3:=zh (show Below w2.heap.size w2 W3 from hW3 ▸ HWH.out t')
  rw[hW3]
  clear z0 z1 hW3 HWH e0 e1 el
  have HL:=zh (HDL.out W3 HB3.out)
  go_wp2_with fail
  with_reducible refine HL.out.mono ?_
  rintro r w3 ⟨fv,rfl,cv3,hg3⟩
  have HG9:=zh (((HG2.out.after HB3.out).next hg3).before HB1.out hsz)
  have hfin:Mk.ended 22 n p.1 p.2=p.2.put ⟨20,0,n,r0,rl⟩:=by rw[HPE.out];rfl
  have HFIN:=zh hfin
  clear hfin hg3 HL hgc hgl
  go_wp2_with fail
  first | go_end0 | (refine bodyPost_ret (results_none rfl _ _ _) rfl ?_)
  exact ⟨rfl,_,by rw[HFIN.out];exact HG9.out⟩
 ·have hcl2:1<cl:=by omega
  have HDR:=zh (IntsM.rest2 HI2.out hcl1)
  have HD:=zh ((Below.refl w2.heap.size w2).drew)
  have HDL:=zh (fun (W3:World) (hb:Below w2.heap.size w2 W3)=>zar 20 0 n r0 rl (some ⟨gb,goff+1,none⟩) rl.length (cl-1) W3 (HG2.out.inn.keep hb) hcode (by constructor<;>omega) (by constructor<;>omega) HN.out HRI.out (HDR.out.below hb))
  refine zaa (Below w2.heap.size w2) 9 (by kernel_rfl) (by kernel_rfl) HD.out ?_
  intro T0 _ WW HWW HWW2
  have z0:∀t,(WW t).cell? _=_:=fun t=>((HWW t).cell (p:=⟨W.heap.size,1,none⟩) el).trans e1
  have z1:∀t,(WW t).cell? _=_:=fun t=>((HWW t).cell (p:=⟨gb,goff,none⟩) hgl).trans hgc
  have HWH:=zh HWW
  clear HWW HWW2
  simp only[List.take_succ_cons,List.take_zero,List.drop_succ_cons,List.drop_zero]
  repeat (go_big_quiet_step (fail))
  refine wpQuiet_nil ?_
  intro t'
  obtain ⟨W3,hW3⟩:∃W3,WW t'=W3:=⟨_,rfl⟩
  have HB3:=zh (show Below w2.heap.size w2 W3 from hW3 ▸ HWH.out t')
  rw[hW3]
  clear z0 z1 hW3 HWH e0 e1 el
  have HL:=zh (HDL.out W3 HB3.out)
  go_wp2_with fail
  with_reducible refine HL.out.mono ?_
  rintro r w3 ⟨fv,rfl,cv3,hg3⟩
  have HG9:=zh (((HG2.out.after HB3.out).next hg3).before HB1.out hsz)
  have hfin:Mk.ended 22 n p.1 p.2=p.2.put ⟨20,0,n,r0,rl⟩:=by rw[HPE.out];rfl
  have HFIN:=zh hfin
  clear hfin hg3 HL hgc hgl
  go_wp2_with fail
  first | go_end0 | (refine bodyPost_ret (results_none rfl _ _ _) rfl ?_)
  exact ⟨rfl,_,by rw[HFIN.out];exact HG9.out⟩
theorem zl3 (n:Int) (v:List Int) (t:List Trm) (ht:AllC t) (hn29:29≤n) (c0 c1 c2 c3:Value) (B base mb vb:Nat) (cv:Value) (X:Nat→Prop) (s:MSt) (nc nk:Int) (fr:Bool) (sc:Int→Bool) (W:World)
    (hv:TrmR W B (.mk 10 n v t) [c0,c1,c2,c3]) (hm:MkIn W B base mb vb cv X s) (hw:∀x∈t,Trm.wf nc nk fr x sc=true) (hroom:Room s (2+6*Trm.allL t)) :
    Calls prog 68 #[.pointer (some ⟨mb,0,none⟩),.agg #[c0,c1,c2,c3]] W fun r w'=>r=.returned (.tuple #[])∧∃cv',MkGo B base mb vb cv cv' X (Mk.ended 10 n (Mk.allT Mk.lkL t s).1 (Mk.allT Mk.lkL t s).2) W w':=by
  obtain ⟨W1,hW1⟩:∃W1,W.alloc (.cells #[c0,c1,c2,c3] 27)=W1:=⟨_,rfl⟩
  have hsz:=hm.size
  obtain ⟨ov,lv,cvv,ot,lt,ct,rfl,rfl,rfl,rfl,hn,HBX,HM,HT,HV,HB1,hlt,hlv⟩:=zav W B base mb vb cv X s _ n v t _ _ _ _ hv hm W1 hW1
  have HW:=zh hW1
  have HN:=zh hn
  have HDR:=zh (Below.drew (Below.refl W1.heap.size W1))
  have HA:=zh (ht (.slice ot lt ct) B base mb vb cv X s nc nk fr sc W1.drew (TrmS.kept HT.out (HDR.out.mono (HM.out.size))) (HM.out.keep HDR.out) hw (hroom.mono (by omega)))
  have hra:=Mk.Room.allT (k:=2) Mk.lkL_ok t s hroom
  obtain ⟨p,hp⟩:∃p,Mk.allT Mk.lkL t s=p:=⟨_,rfl⟩
  rw[hp] at HA hra
  rw[hp]
  have HRA:=zh hra
  have hcode:p.2.code.length≤1000000:=by have:=HRA.out.1.1;omega
  have e0:=HBX.out.cell 0 rfl
  have e1:=HBX.out.cell 1 rfl
  have e3:=HBX.out.cell 3 rfl
  have el:=HBX.out.lt
  have hq29:decide (29≤n)=true:=decide_eq_true hn29
  have hfin:Mk.ended 10 n p.1 p.2=p.2.put ⟨21,0,n,0,p.1⟩:=rfl
  rw[hfin]
  clear hv hm hW1 hw hroom hra hp ht hlt hlv hn hn29 hfin
  go_enter func68,ntmps68
  go_upto_region 2 with fail
  rw[HW.out]
  go_upto_region 9 with fail
  go_region_with (first
    | (go_at_call 66
       with_reducible refine HA.out.mono ?_
       rintro r w2 ⟨rv,rfl,cv2,hg2,hi2⟩
       have HG2:=zh hg2
       have HI2:=zh hi2
       have HBX2:=zh (HG2.out.box (HM.out.keep HDR.out) (HBX.out.keep HDR.out) (by decide) (by decide))
       obtain ⟨ol,ll,cl,rfl⟩:=hi2.1.form
       have HL:=zh (zar 21 0 n 0 p.1 ol ll cl w2 HG2.out.inn hcode (by constructor<;>omega) (by constructor<;>omega) HN.out (by constructor<;>omega) HI2.out)
       have f1:=HBX2.out.cell 1 rfl
       have fl:=HBX2.out.lt
       clear hg2 hi2)
    | (go_at_call 92
       with_reducible refine HL.out.mono ?_
       rintro r w3 ⟨fv,rfl,cv3,hg3⟩
       have HG3:=zh hg3
       clear hg3))
  all_goals
    go_wp2_with fail
    first | go_end0 | (refine bodyPost_ret (results_none rfl _ _ _) rfl ?_)
    exact ⟨rfl,_,((HG2.out.next HG3.out).before HDR.out (by have:=HM.out.size;omega)).before HB1.out hsz⟩
end
end Go.Proofs.YtdcajmeeeoofgaaGreatDoor
