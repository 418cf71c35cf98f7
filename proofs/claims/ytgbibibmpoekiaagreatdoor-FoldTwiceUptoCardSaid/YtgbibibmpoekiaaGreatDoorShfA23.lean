/-
  What the proofs lean on: CkC, FdA, Fw0, WalkT.
-/
import Derived.Defers
import Derived.Shelf.Abstract
import Derived.Shelf.RegionOpen
import Derived.OwnWalkIn
import Derived.TacticsInMore
import Derived.LoopNIn
import Derived.LoopIn
import Derived.Test.YtgbibibmpoekiaaGreatDoorShfA11
import Derived.Test.YtgbibibmpoekiaaGreatDoorShfA13
import Derived.Test.YtgbibibmpoekiaaGreatDoorShfA14
import Derived.Test.YtgbibibmpoekiaaGreatDoorShfA17
import Derived.Test.YtgbibibmpoekiaaGreatDoorShfA19
import Derived.Test.YtgbibibmpoekiaaGreatDoorShfA20
import Derived.Test.YtgbibibmpoekiaaGreatDoorShfA22
set_option maxRecDepth 100000
set_option maxHeartbeats 16000000
namespace Go.Proofs.YtgbibibmpoekiaaGreatDoor
section
open Go Go.RowKit
theorem SlC.takes {α:Type} {w:World} {B size:Nat} {R:α→List Value→Prop} {l:List α} {o:Option Addr} {len cap n:Nat} (h:SlC w B size R l (.slice o len cap)) (hn:n≤len):SlC w B size R (l.take n) (.slice o n cap):=by
 obtain ⟨o',len',cap',he,h1,h2,h3,h4⟩:=h
 simp only[Value.slice.injEq] at he
 obtain ⟨rfl,rfl,rfl⟩:=he
 refine ⟨o,n,cap,rfl,by rw[List.length_take];omega,by omega,h3,?_⟩
 cases o with
 | none=>exact ⟨by rw[h4.1];simp,h4.2⟩
 | some a=>
  refine ⟨fun hl=>h4.1 (fun e=>hl (by rw[e];simp)),fun i x hx=>h4.2 i x ?_⟩
  rw[List.getElem?_take] at hx
  split at hx
  ·exact hx
  ·cases hx
theorem SlC.drops {α:Type} {w:World} {B size:Nat} {R:α→List Value→Prop} {l:List α} {b off len cap n:Nat} (h:SlC w B size R l (.slice (some ⟨b,off,none⟩) len cap)) (hn:n≤len):SlC w B size R (l.drop n) (.slice (some ⟨b,off+n*size,none⟩) (len-n) (cap-n)):=by
 obtain ⟨o',len',cap',he,h1,h2,h3,h4⟩:=h
 simp only[Value.slice.injEq] at he
 obtain ⟨rfl,rfl,rfl⟩:=he
 refine ⟨_,len-n,cap-n,rfl,by rw[List.length_drop];omega,by omega,by omega,fun hl=>⟨rfl,(h4.1 (fun e=>hl (by rw[e];simp))).2⟩,fun i x hx=>?_⟩
 rw[List.getElem?_drop] at hx
 obtain ⟨cs,g1,g2,g3⟩:=h4.2 (n+i) x hx
 refine ⟨cs,g1,fun j u hj=>?_,g3⟩
 have:=g2 j u hj
 rw[show off+n*size+i*size+j=off+(n+i)*size+j by rw[Nat.add_mul];omega]
 exact this
theorem procedures1_to (o n:Int) (vs ts:Value) (ov ot:Option Addr) (lv cv lt ct:Nat) (hv:vs=.slice ov lv cv) (ht:ts=.slice ot lt ct) (pb:Nat) (w:World) (hp:BoxL w pb 3 [.int .i64 4]) :
  Calls Tryz.prog 95 #[.agg #[.int .i64 o,.int .i64 n,vs,ts],.pointer (some ⟨pb,0,none⟩)] w fun e w'=>e=.returned (.bool (o != 4))∧Below w.heap.size w w':=by
 subst hv ht
 have p0:=hp.cell 0 rfl
 have pl:=hp.lt
 clear hp
 by_cases h:o=4
 ·subst h
  go_enter Tryz.func95,Tryz.ntmps95
  go_wp2_with fail
  go_ret
  exact ⟨rfl,Below.one w _⟩
 ·have f0:(o != 4)=true:=by simpa using h
  go_enter Tryz.func95,Tryz.ntmps95
  go_wp2_with fail
  go_ret
  exact ⟨by rw[f0];rfl,Below.one w _⟩
theorem procedures_any (l:List Trm) (sl:Value) (B cb:Nat) (nc nk size:Int) (fr:Bool) (bb:Nat) (w:World) (hv:TrmS w B l sl) (hB:B≤w.heap.size) (hc:BoxL w cb 65 [.int .i64 2,.int .i64 nc,.int .i64 nk,.bool fr,.int .i64 size,.map (some bb)]) :
  Calls Tryz.prog 68 #[.pointer (some ⟨cb,0,none⟩),sl] w fun e w'=>e=.returned (.bool (l.all fun x=>x.op==4))∧Below w.heap.size w w':=by
 obtain ⟨r,hr⟩:∃r,(l.all fun x=>x.op==4)=r:=⟨_,rfl⟩
 rw[hr]
 have HR:=Lib.hid hr
 obtain ⟨W1,hW1⟩:∃W1,w.alloc (.cells #[.int .i64 4] 3)=W1:=⟨_,rfl⟩
 have HW:=Lib.hid hW1
 have HB1:=Lib.hid (show Below w.heap.size w W1 from by rw[←hW1];exact Below.one w _)
 have HP:=Lib.hid (show BoxL W1 w.heap.size 3 [.int .i64 4] from by rw[←hW1];exact BoxL.new rfl _ _)
 have HS:=Lib.hid (TrmS.kept hv (HB1.out.mono hB))
 obtain ⟨o,len,cap,rfl,h1,h2,h3⟩:=SlC.slice hv
 have hbw:B≤W1.heap.size:=Nat.le_trans hB HB1.out.size
 have HC:=Lib.hid (containsT_S 95 #[.pointer (some ⟨w.heap.size,0,none⟩)] l (.slice o len cap) B W1 (fun j W=>(l.take j).all (fun x=>x.op==4)=true∧Below W1.heap.size W1 W) (fun W=>r=false∧Below W1.heap.size W1 W) HS.out (fun _ _=>rfl) (fun j W h=>h.2.mono hbw) ⟨by simp,Below.refl _ _⟩ (fun j x hx c0 c1 c2 c3 W ht hst=>by
  obtain ⟨op,n,v,t⟩:=x
  obtain ⟨vs,ts,he,_,_,hvs,hts⟩:=trmR_iff.1 ht
  simp only[List.cons.injEq,and_true] at he
  obtain ⟨rfl,rfl,rfl,rfl⟩:=he
  obtain ⟨ov,lv,cv,rfl⟩:=hvs.form
  obtain ⟨ot,lt,ct,rfl⟩:=hts.form
  refine (procedures1_to op n _ _ ov ot lv cv lt ct rfl rfl w.heap.size W (HP.out.keep hst.2)).mono ?_
  rintro e W' ⟨rfl,hb⟩
  refine ⟨_,rfl,fun h=>⟨?_,Below.next hst.2 hb⟩,fun h=>⟨?_,Below.next hst.2 hb⟩⟩
  ·rw[←HR.out]
   rw[List.all_eq_false]
   exact ⟨_,List.mem_of_getElem? hx,by simpa[Trm.op] using h⟩
  ·rw[List.take_add_one,hx,List.all_append,hst.1]
   simpa[Trm.op] using h))
 have c0:=(hc.keep (Below.one w (.cells #[.int .i64 4] 3))).cell 0 rfl
 have cl:=hc.lt
 clear hr hv hc hW1 h1 h2 h3
 go_enter Tryz.func68,Tryz.ntmps68
 go_upto_region 4 with fail
 rw[HW.out]
 go_wp2_with fail
 refine HC.out.mono ?_
 rintro e w1 ⟨c,rfl,h1,h2⟩
 have H1:=Lib.hid h1
 have H2:=Lib.hid h2
 clear h1 h2
 cases c with
 | true=>
  go_wp2_with fail
  go_ret
  obtain ⟨h0,hb⟩:=H1.out trivial
  subst h0
  exact ⟨rfl,HB1.out.trans (hb.mono HB1.out.size)⟩
 | false=>
  go_wp2_with fail
  go_ret
  have h:=H2.out trivial
  rw[List.take_of_length_le (Nat.le_refl _),HR.out] at h
  obtain ⟨h0,hb⟩:=h
  subst h0
  exact ⟨rfl,HB1.out.trans (hb.mono HB1.out.size)⟩
theorem right1_deferred (op n:Int) (v:List Int) (ov ot:Option Addr) (lv cv lt ct:Nat) (B tb qb sb m:Nat) (g:Int→Bool) (w:World) (hv:SlC w B 1 IntR v (.slice ov lv cv)) (hB:B≤w.heap.size) (hsB:B≤sb)
  (ht:BoxL w tb 26 [.int .i64 op,.int .i64 n,.slice ov lv cv,.slice ot lt ct]) (hq:BoxL w qb 63 [.map (some sb)]) (hm:MapVB w sb m g) :
  CallsD Tryz.prog 64 #[.pointer (some ⟨tb,0,none⟩),.pointer (some ⟨qb,0,none⟩)] .returning w fun e u' w'=>u'=.returning∧(e=.returned (.tuple #[])∧MapVB w' sb m (fun x=>g x && !v.contains x)∧Turned (fun b=>b=sb) w w'):=by
 obtain ⟨hlen,hcap,hmax⟩:=hv.lens
 have HV:=Lib.hid hv
 have HL:=Lib.hid hlen
 have HT:=Lib.hid ht
 have HQ:=Lib.hid hq
 have HM:=Lib.hid hm
 have hts:tb≠sb:=map_box_ne hm ht
 have hqs:qb≠sb:=map_box_ne hm hq
 have t2:=ht.cell 2 rfl
 have tl:=ht.lt
 clear hv hlen ht hq hm
 go_enter_d Tryz.func64,Tryz.ntmps64
 go_wp2_with fail
 go_loopg [7] lv (fun G i wr=>∃(j:Nat),G=lv-j∧i=.int .i64 j∧j≤lv∧Hid (MapVB wr sb m (fun x=>g x && !(v.take j).contains x))∧Hid (Turned (fun b=>b=sb) w wr))
 case atStart=>exact ⟨0,rfl,rfl,by omega,Lib.hid (by simpa using HM.out),Lib.hid (Turned.refl _ _)⟩
 case round=>
  obtain ⟨j,rfl,rfl,hj,HA,HTU⟩:=hrel
  by_cases hjl:j<lv
  ·obtain ⟨x,hx⟩:∃x,v[j]?=some x:=⟨_,List.getElem?_eq_getElem (by rw[←HL.out];exact hjl)⟩
   obtain ⟨b,off,cs,ho,_,hcl,hcell,hir⟩:=HV.out.at (HTU.out.below (fun b hb=>by rw[hb];exact hsB) hB) hx
   subst ho
   obtain ⟨rfl,hxi⟩:=hir
   have e0:=hcell 0 _ rfl
   simp only[Nat.add_zero,Nat.mul_one] at e0
   have HTK:=Lib.hid (show v.take (j+1)=v.take j++[x] by rw[List.take_add_one,hx];rfl)
   have HI:=Lib.hid hxi
   have q0:=(HTU.out.box HQ.out hqs).cell 0 rfl
   have ql:=(HTU.out.box HQ.out hqs).lt
   clear hx hcell hxi
   go_wp2_with (at_delete;refine wpList_delVB rfl _ _ rfl sb m _ rfl HA.out x rfl HI.out ?_;intro w1 hm1 hg1;have HM1:=Lib.hid hm1;have HG1:=Lib.hid hg1;clear hm1 hg1)
   go_roundg (lv-(j+1))
   case measure=>omega
   case rel=>
    refine ⟨j+1,rfl,by go_num,by omega,Lib.hid ?_,Lib.hid (HTU.out.next (Turned.grown HG1.out (fun b hb=>by simpa using hb.symm)))⟩
    have e:(fun y=>g y && !(v.take (j+1)).contains y)=fun y=>if y=x then false else (g y && !(v.take j).contains y):=by
     funext y
     rw[HTK.out]
     by_cases h:y=x
     ·simp[h]
     ·simp[h]
    rw[e]
    exact HM1.out
  ·obtain rfl:j=lv:=by omega
   have HE:=Lib.hid (show v.take j=v from List.take_of_length_le (by rw[←HL.out];exact Nat.le_refl _))
   have HM2:=HA.out
   rw[HE.out] at HM2
   have HM3:=Lib.hid HM2
   clear HM2
   go_wp2_with fail
   go_end0
   exact ⟨rfl,HM3.out,HTU.out⟩
end
section
open Go Go.RowKit
namespace Fd
open Trm
theorem wf_each {nc nk:Int} {fr:Bool} {o:Int} {v:List Int} {sc:Int→Bool}:∀{t:List Trm},wfL nc nk fr o v t sc=true→∀y∈t,∃s,wf nc nk fr y s=true:=fun {t}=>by
 induction t with
 | nil=>intro _ y hy;simp at hy
 | cons x l ihl=>
  intro hw y hy
  cases l with
  | nil=>
   rw[List.mem_singleton.1 hy]
   rw[wfL] at hw
   exact ⟨_,hw⟩
  | cons z l=>
   rw[wfL,Bool.and_eq_true] at hw
   rcases List.mem_cons.1 hy with rfl | hy
   ·have hx:=hw.1
    split at hx
    ·rw[Bool.and_eq_true] at hx
     exact ⟨_,hx.2⟩
    ·exact ⟨_,hx⟩
   ·exact ihl hw.2 y hy
theorem wf_neat {nc nk:Int} {fr:Bool}:∀(x:Trm) (sc:Int→Bool),wf nc nk fr x sc=true→neat x=true∧trim x=true∧cnt x=true:=by
 intro x
 induction x using Trm.ind with
 | h o n v t ih=>
  intro sc h
  obtain ⟨_,h1,h2,h3⟩:=wf_open h
  have hp:∀y∈t,neat y=true∧trim y=true∧cnt y=true:=fun y hy=>by
   obtain ⟨s,hs⟩:=wf_each h3 y hy
   exact ih y hy s hs
  have k1:=neatL_iff.2 fun y hy=>(hp y hy).1
  have k2:=trimL_iff.2 fun y hy=>(hp y hy).2.1
  have k3:=cntL_iff.2 fun y hy=>(hp y hy).2.2
  simp only[neat,trim,cnt,k1,k2,k3,Bool.and_true]
  refine ⟨?_,?_,?_⟩
  ·by_cases ho:o=0∨o=1∨o=11∨o=13
   ·rcases ho with rfl | rfl | rfl | rfl<;>(simp[countsB] at h1;simp[h1])
   ·simp only[not_or] at ho
    simp[ho]
  ·by_cases h6:o=6
   ·subst h6
    simp[countsB] at h1
    simp[numberB] at h2
    simp[h1,h2]
   ·by_cases h8:o=8
    ·subst h8
     simp[numberB] at h2
     simp[h2]
    ·simp[h6,h8]
  ·by_cases h8:o=8
   ·subst h8
    simp[countsB] at h1
    simp[h1]
   ·by_cases h10:o=10
    ·subst h10
     simp[countsB] at h1
     simp[h1]
    ·simp[h8,h10]
variable {F : Int → List Dat → Option Dat}
def iter (F:Int→List Dat→Option Dat):Nat→Trm→List Dat→Trm × List Dat
 | 0,x,cs=>(x,cs)
 | k+1,x,cs=>term F (iter F k x cs).1 (iter F k x cs).2
theorem okP_wf {cs:List Dat} {x:Trm} (h:okP cs x=true):wf cs.length 0 false x (fun _=>false)=true:=by
 unfold okP at h
 simp only[Bool.and_eq_true] at h
 exact h.2.1
theorem iter_ok (hF:∀n l d,F n l=some d→Dat.right d 0=true) {x:Trm} {cs:List Dat} (h:okP cs x=true):∀k,okP (iter F k x cs).2 (iter F k x cs).1=true∧(iter F k x cs).1.all≤x.all
 | 0=>⟨h,Nat.le_refl _⟩
 | k+1=>by
  obtain ⟨h1,h2⟩:=iter_ok hF h k
  have:=term_small F (iter F k x cs).1 (iter F k x cs).2 (wf_neat _ _ (okP_wf h1)).1
  exact ⟨term_ok hF h1,by rw[iter];omega⟩
end Fd
end
section
open Go Go.RowKit
theorem fvalue_any (o n:Int) (ov ot:Option Addr) (lv cv lt ct:Nat) (w:World) :
  Calls Tryz.prog 44 #[.agg #[.int .i64 o,.int .i64 n,.slice ov lv cv,.slice ot lt ct]] w fun e w'=>e=.returned (.bool (o==0 || (o==11 || o==4)))∧Below w.heap.size w w':=by
 have hb:=Below.one w (.cells #[.int .i64 o,.int .i64 n,.slice ov lv cv,.slice ot lt ct] 26)
 have HB:=Lib.hid hb
 clear hb
 by_cases h0:o=0
 ·subst h0
  go_enter Tryz.func44,Tryz.ntmps44
  go_wp2_with fail
  go_ret
  exact ⟨rfl,by first | exact HB.out | exact Below.drewN HB.out _⟩
 have f0:(o==0)=false:=by simpa using h0
 rw[f0]
 by_cases h1:o=11
 ·subst h1
  go_enter Tryz.func44,Tryz.ntmps44
  go_wp2_with fail
  go_ret
  exact ⟨rfl,by first | exact HB.out | exact Below.drewN HB.out _⟩
 have f1:(o==11)=false:=by simpa using h1
 rw[f1]
 by_cases h2:o=4
 ·subst h2
  go_enter Tryz.func44,Tryz.ntmps44
  go_wp2_with fail
  go_ret
  exact ⟨rfl,by first | exact HB.out | exact Below.drewN HB.out _⟩
 have f2:(o==4)=false:=by simpa using h2
 rw[f2]
 go_enter Tryz.func44,Tryz.ntmps44
 go_wp2_with fail
 go_ret
 exact ⟨rfl,by first | exact HB.out | exact Below.drewN HB.out _⟩
theorem flight_any (o n:Int) (ov ot:Option Addr) (lv cv lt ct:Nat) (w:World) :
  Calls Tryz.prog 74 #[.agg #[.int .i64 o,.int .i64 n,.slice ov lv cv,.slice ot lt ct]] w fun e w'=>e=.returned (.bool (o==0 || (o==11 || o==1)))∧Below w.heap.size w w':=by
 have hb:=Below.one w (.cells #[.int .i64 o,.int .i64 n,.slice ov lv cv,.slice ot lt ct] 26)
 have HB:=Lib.hid hb
 clear hb
 by_cases h0:o=0
 ·subst h0
  go_enter Tryz.func74,Tryz.ntmps74
  go_wp2_with fail
  go_ret
  exact ⟨rfl,by first | exact HB.out | exact Below.drewN HB.out _⟩
 have f0:(o==0)=false:=by simpa using h0
 rw[f0]
 by_cases h1:o=11
 ·subst h1
  go_enter Tryz.func74,Tryz.ntmps74
  go_wp2_with fail
  go_ret
  exact ⟨rfl,by first | exact HB.out | exact Below.drewN HB.out _⟩
 have f1:(o==11)=false:=by simpa using h1
 rw[f1]
 by_cases h2:o=1
 ·subst h2
  go_enter Tryz.func74,Tryz.ntmps74
  go_wp2_with fail
  go_ret
  exact ⟨rfl,by first | exact HB.out | exact Below.drewN HB.out _⟩
 have f2:(o==1)=false:=by simpa using h2
 rw[f2]
 go_enter Tryz.func74,Tryz.ntmps74
 go_wp2_with fail
 go_ret
 exact ⟨rfl,by first | exact HB.out | exact Below.drewN HB.out _⟩
theorem fidle_any (o n:Int) (ov ot:Option Addr) (lv cv lt ct:Nat) (w:World) :
  Calls Tryz.prog 73 #[.agg #[.int .i64 o,.int .i64 n,.slice ov lv cv,.slice ot lt ct]] w fun e w'=>e=.returned (.bool ((o==0 || (o==11 || o==1)) || (o==4 || o==13)))∧Below w.heap.size w w':=by
 obtain ⟨q,hq⟩:∃q,(o==0 || (o==11 || o==1))=q:=⟨_,rfl⟩
 have HC:=Lib.hid (fun W=>flight_any o n ov ot lv cv lt ct W)
 rw[hq] at HC ⊢
 clear hq
 cases q with
 | true=>
  go_enter Tryz.func73,Tryz.ntmps73
  go_wp2_with fail
  refine (HC.out _).mono ?_
  rintro e w1 ⟨rfl,hb1⟩
  have HB:=Lib.hid ((Below.one w _).trans (hb1.mono (by simp)))
  clear hb1
  go_wp2_with fail
  go_ret
  exact ⟨rfl,by first | exact HB.out | exact Below.drewN HB.out _⟩
 | false=>
  by_cases h4:o=4
  ·subst h4
   go_enter Tryz.func73,Tryz.ntmps73
   go_wp2_with fail
   refine (HC.out _).mono ?_
   rintro e w1 ⟨rfl,hb1⟩
   have HB:=Lib.hid ((Below.one w _).trans (hb1.mono (by simp)))
   have c0:=keepC hb1 ((BoxL.new (W:=w) rfl 26 [.int .i64 4,.int .i64 n,.slice ov lv cv,.slice ot lt ct]).cell 0 rfl)
   clear hb1
   go_wp2_with fail
   go_ret
   exact ⟨rfl,by first | exact HB.out | exact Below.drewN HB.out _⟩
  have f4:(o==4)=false:=by simpa using h4
  rw[f4]
  by_cases h13:o=13
  ·subst h13
   go_enter Tryz.func73,Tryz.ntmps73
   go_wp2_with fail
   refine (HC.out _).mono ?_
   rintro e w1 ⟨rfl,hb1⟩
   have HB:=Lib.hid ((Below.one w _).trans (hb1.mono (by simp)))
   have c0:=keepC hb1 ((BoxL.new (W:=w) rfl 26 [.int .i64 13,.int .i64 n,.slice ov lv cv,.slice ot lt ct]).cell 0 rfl)
   clear hb1
   go_wp2_with fail
   go_ret
   exact ⟨rfl,by first | exact HB.out | exact Below.drewN HB.out _⟩
  have f13:(o==13)=false:=by simpa using h13
  rw[f13]
  go_enter Tryz.func73,Tryz.ntmps73
  go_wp2_with fail
  refine (HC.out _).mono ?_
  rintro e w1 ⟨rfl,hb1⟩
  have HB:=Lib.hid ((Below.one w _).trans (hb1.mono (by simp)))
  have c0:=keepC hb1 ((BoxL.new (W:=w) rfl 26 [.int .i64 o,.int .i64 n,.slice ov lv cv,.slice ot lt ct]).cell 0 rfl)
  clear hb1
  go_wp2_with fail
  go_ret
  exact ⟨rfl,by first | exact HB.out | exact Below.drewN HB.out _⟩
end
section
open Go Go.RowKit
def slvT (p:Option Addr × Nat × Nat):Value:=.slice p.1 p.2.1 p.2.2
structure Met where
 o:Int
 n:Int
 v:Option Addr × Nat × Nat
 t:Option Addr × Nat × Nat
 s:Option Addr × Nat × Nat
def Met.enc (m:Met):Value:=.agg #[.int .i64 m.o,.int .i64 m.n,slvT m.v,slvT m.t,slvT m.s]
def Met.key (m:Met):Int × Int:=(m.o,m.n)
def Trm.key (y:Trm):Int × Int:=(y.op,y.n)
def WkPost (T:Nat→Prop) (J:List Met→World→Prop) (pre:List Met) (ks:List (Int × Int)) (W:World) (e:Ending) (W':World):Prop:=e=.returned (.bool true)∧∃ms:List Met,ms.map Met.key=ks∧J (pre++ms) W'∧KeepC T W W'
theorem Trm.preL_len:∀l:List Trm,(Trm.preL l).length=Trm.allL l
 | []=>rfl
 | x::l=>by rw[Trm.preL,Trm.allL,List.length_append,Trm.pre_len,Trm.preL_len l]
theorem bndL_le {l:List Trm} {x:Trm} (h:x∈l):x.bnd.length≤(Trm.bndL l).length:=by
 induction l with
 | nil=>cases h
 | cons y l ih=>
  rw[Trm.bndL,List.length_append]
  rcases List.mem_cons.1 h with rfl | h
  ·omega
  ·have:=ih h;omega
theorem walk_any {l yb wb:Nat} {T:Nat→Prop} {N:Nat} {J:List Met→World→Prop} (hJ:∀s A B,J s A→Below A.heap.size A B→J s B)
  (hY:∀m pre y W1,J pre W1→pre.length<N→YieldAt Fence.wide m Tryz.prog l #[Met.enc y] W1 fun e W'=>e=.returned (.bool true)∧J (pre++[y]) W'∧KeepC T W1 W') (hyT:¬T yb) (hwT:¬T wb) :
  ∀(x:Trm) (c0 c1 c2 c3 sv:Value) (scope:List Int) (deep:Nat) (pre:List Met) (W:World),TrmR (hide W T) W.heap.size x [c0,c1,c2,c3]→SlC (hide W T) W.heap.size 1 IntR scope sv →
   BoxL W yb 79 [.func (.yield l) #[] #[]]→BoxL W wb 80 [.func (.func 55) #[] #[.pointer (some ⟨yb,0,none⟩),.pointer (some ⟨wb,0,none⟩)]] →
   (∀b,T b→b<W.heap.size)→deep+x.all≤1000→scope.length+x.bnd.length≤3000000→pre.length+x.all≤N→J pre W →
   Calls Tryz.prog 55 #[.agg #[c0,c1,c2,c3],sv,.int .i64 deep,.pointer (some ⟨yb,0,none⟩),.pointer (some ⟨wb,0,none⟩)] W (WkPost T J pre (x.pre.map Trm.key) W):=by
 intro x
 induction x using Trm.ind with
 | _ o n v t ih=>
 intro c0 c1 c2 c3 sv scope deep pre W hx hs hyb hwb hT hd hsc hN h0
 obtain ⟨vs,ts,he,ho,hn,hv,ht⟩:=trmR_iff.1 hx
 simp only[List.cons.injEq,and_true] at he
 obtain ⟨rfl,rfl,rfl,rfl⟩:=he
 obtain ⟨ov,lv,cv,rfl⟩:=hv.form
 obtain ⟨ot,lt,ct,rfl⟩:=SlC.form ht
 obtain ⟨os,ls,cs,rfl⟩:=hs.form
 have hall:1≤(Trm.mk o n v t).all:=Trm.all_pos _
 have hb1:=Below.one W (.cells #[.int .i64 o,.int .i64 n,.slice ov lv cv,.slice ot lt ct] 26)
 obtain ⟨fn,tmps,assign,body,hy,hR⟩:=hY 4 pre ⟨o,n,(ov,lv,cv),(ot,lt,ct),(os,ls,cs)⟩ (W.alloc (.cells #[.int .i64 o,.int .i64 n,.slice ov lv cv,.slice ot lt ct] 26)) (hJ _ _ _ h0 hb1) (by omega)
 simp only[Met.enc,slvT] at hy
 have HR:=Lib.hid hR
 have IH:=Lib.hid ih
 have HV:=Lib.hid hv
 have HTT:=Lib.hid ht
 have HS:=Lib.hid hs
 have HYB:=Lib.hid hyb
 have HWB:=Lib.hid hwb
 have HT:=Lib.hid hT
 have hd1:decide ((deep:Int)≥1000)=false:=decide_eq_false (by omega)
 have y0:=hyb.cell 0 rfl
 have yl:=hyb.lt
 have HSC:=Lib.hid hsc
 have HN:=Lib.hid hN
 have HB1:=Lib.hid hb1
 have HDP:=Lib.hid hd
 clear hR ih hv ht hs hyb hwb hT hx hY h0 hsc hN hb1 hd hall
 refine (callsIn_wide (n:=5)).1 ?_
 refine callsIn_of_wp Tryz.func55 rfl trivial ?_ rfl
 simp only[Tryz.ntmps55,List.size_toArray,List.length_cons,List.length_nil,Nat.reduceAdd,Nat.reduceSub,Array.replicate_succ,Array.replicate_zero,List.push_toArray,List.append_toArray,List.nil_append,List.cons_append]
 gi_wp2
 refine HR.out.mono ?_
 rintro e W2 ⟨rfl,hj2,hk2⟩
 have HJ2:=Lib.hid hj2
 have HK2:=Lib.hid ((KeepC.of_below HB1.out).trans hk2)
 have HX2:=Lib.hid (hk2.box (BoxL.new rfl _ _) (fun h=>Nat.lt_irrefl _ (HT.out _ h)))
 clear hj2 hk2 y0 yl HR hy
 have x2:=HX2.out.cell 2 rfl
 have x3:=HX2.out.cell 3 rfl
 have xl:=HX2.out.lt
 have hb2:=Below.one W2 (.cells #[.slice os ls cs,.slice ov lv cv] 23)
 have HS2:=Lib.hid (ints_shown HS.out HK2.out.shown HK2.out.size)
 have HV2:=Lib.hid (ints_shown HV.out HK2.out.shown HK2.out.size)
 have HCC:=Lib.hid (concat_any scope v (.slice os ls cs) (.slice ov lv cv) W2.heap.size W2.heap.size (W2.alloc (.cells #[.slice os ls cs,.slice ov lv cv] 23)) ((ints_unhide HS2.out).kept hb2 fun _ _ _ h=>h) ((ints_unhide HV2.out).kept hb2 fun _ _ _ h=>h) hb2.size (BoxL.new rfl _ _) (by have:=HSC.out;omega) (by have:=HSC.out;rw[Trm.bnd,List.length_append] at this;omega))
 clear hb2
 gi_wp2
 refine ⟨trivial,((callsIn_wide (n:=4)).2 HCC.out).mono ?_⟩
 rintro e W3 ⟨inn,rfl,hrow,hii,⟨oi,ni,ki,rfl⟩,hb3⟩
 have hb23:Below W2.heap.size W2 W3:=(Below.one W2 _).trans (hb3.mono (by simp))
 have HIN:=Lib.hid (show SlC (hide W3 T) W3.heap.size 1 IntR (scope++v) (.slice oi ni ki) from by
  have h:=rowInts (w:=hide W3 T) (row_hide hrow fun g hg hT=>by
   have h1:=own_from hrow g hg
   have h2:=HT.out g hT
   have h3:=HK2.out.size
   simp at h1
   omega) hii
  rwa[hide_size] at h)
 have HK3:=Lib.hid (HK2.out.trans (.of_below hb23))
 have HJ3:=Lib.hid (hJ _ _ _ HJ2.out hb23)
 have HX3:=Lib.hid (HX2.out.keep hb23)
 clear hrow hii hb3 hb23 x2 x3 xl HCC
 have x3:=HX3.out.cell 3 rfl
 have xl:=HX3.out.lt
 gi_wp2
 clear x3 xl
 refine wpIn_wide.2 ?_
 have hsz3:W.heap.size<W3.heap.size:=HX3.out.lt
 have HLT:=Lib.hid (show lt=t.length from (SlC.lens HTT.out).1)
 have hlt:lt≤1000:=by have:=Trm.allL_length t;have:=HDP.out;rw[Trm.all] at this;have:=HLT.out;omega
 go_loopg [29] lt (fun g i wr=>∃(j:Nat) (ms:List Met),g=lt-j∧j≤lt∧i=.int .i64 j∧Hid (ms.map Met.key=(o,n)::(Trm.preL (t.take j)).map Trm.key)∧Hid (J (pre++ms) wr)∧Hid (KeepC T W3 wr))
 case atStart=>exact ⟨0,[⟨o,n,(ov,lv,cv),(ot,lt,ct),(os,ls,cs)⟩],rfl,by omega,rfl,Lib.hid rfl,HJ3,Lib.hid (.refl _ _)⟩
 case round=>
  obtain ⟨j,ms,rfl,hj,rfl,HM,HJR,HKR⟩:=hrel
  have HKW:=Lib.hid (HK3.out.trans HKR.out)
  have HXR:=Lib.hid (HKR.out.box HX3.out (fun h=>Nat.lt_irrefl _ (HT.out _ h)))
  have x0:=HXR.out.cell 0 rfl
  have x1:=HXR.out.cell 1 rfl
  have x2:=HXR.out.cell 2 rfl
  have x3:=HXR.out.cell 3 rfl
  have xl:=HXR.out.lt
  by_cases hjl:j<lt
  ·obtain ⟨y,hy⟩:∃y,t[j]?=some y:=⟨_,List.getElem?_eq_getElem (by rw[←HLT.out];exact hjl)⟩
   have htr:TrmS (hide wr T) wr.heap.size t (.slice ot lt ct):=TrmS.shown HTT.out HKW.out.shown HKW.out.size
   obtain ⟨eb,eo,es,he,_,hcl,hcell,hir⟩:=SlC.at htr (Below.refl _ _) hy
   subst he
   obtain ⟨oy,ny,ky,oz,nz,kz,rfl,_,_,_,_⟩:=trmR_form hir
   have e0:=(hide_some (hcell 0 _ rfl)).2
   have e1:=(hide_some (hcell 1 _ rfl)).2
   have e2:=(hide_some (hcell 2 _ rfl)).2
   have e3:=(hide_some (hcell 3 _ rfl)).2
   simp only[Nat.add_zero] at e0
   have HIR:=Lib.hid hir
   have HY:=Lib.hid hy
   clear hcell hir hy htr hcl
   obtain ⟨q,hq⟩:∃q,(o==7 || o==9)=q:=⟨_,rfl⟩
   have HGR:=Lib.hid (fun X=>group_any o n (.slice ov lv cv) (.slice (some ⟨eb,eo,none⟩) lt ct) ov (some ⟨eb,eo,none⟩) lv cv lt ct rfl rfl X)
   rw[hq] at HGR
   go_wp2_with fail
   refine (HGR.out _).mono ?_
   rintro e W9 ⟨rfl,hb9⟩
   have hb9':Below wr.heap.size wr W9:=(Below.one wr _).trans (hb9.mono (by simp))
   have HB9:=Lib.hid hb9'
   have BX9:=Lib.hid (show BoxL W9 wr.heap.size 26 [.int .i64 y.op,.int .i64 y.n,.slice oy ny ky,.slice oz nz kz] from (BoxL.new rfl _ _).keep hb9)
   have HX9:=Lib.hid (HXR.out.keep hb9')
   have HW9:=Lib.hid ((HKW.out.box HWB.out hwT).keep hb9')
   have HJ9:=Lib.hid (hJ _ _ _ HJR.out hb9')
   have HC:=Lib.hid (fun (scv:Value) (sc:List Int) (h:SlC (hide W9 T) W9.heap.size 1 IntR sc scv) (hl:sc.length≤(scope++v).length)=>show Calls Tryz.prog 55 #[.agg #[.int .i64 y.op,.int .i64 y.n,.slice oy ny ky,.slice oz nz kz],scv,.int .i64 (wrap64 ((deep:Int)+1)),.pointer (some ⟨yb,0,none⟩),.pointer (some ⟨wb,0,none⟩)] W9 (WkPost T J (pre++ms) (y.pre.map Trm.key) W9) from by
    have hmem:=List.mem_of_getElem? HY.out
    have hsz:=HKW.out.size
    have hall:=Trm.allL_mem hmem
    have hbl:=bndL_le hmem
    have h1:=HDP.out
    have h2:=HSC.out
    have h3:=HN.out
    have h4:=Trm.allL_take t j y HY.out
    have h5:=Trm.allL_take_le t (j+1)
    have h6:=congrArg List.length HM.out
    rw[List.length_map,List.length_cons,List.length_map,Trm.preL_len] at h6
    rw[Trm.all] at h1 h3
    rw[Trm.bnd,List.length_append] at h2
    rw[List.length_append] at hl
    have:=IH.out y hmem (.int .i64 y.op) (.int .i64 y.n) (.slice oy ny ky) (.slice oz nz kz) scv sc (deep+1) (pre++ms) W9 (HIR.out.shown (Shown.below hb9') hb9'.size) h ((HKW.out.box HYB.out hyT).keep hb9') HW9.out (fun b hb=>by have:=HT.out b hb;have:=hb9'.size;omega) (by omega) (by omega) (by rw[List.length_append];omega) HJ9.out
    rwa[show ((deep+1:Nat):Int)=wrap64 ((deep:Int)+1) from by unfold wrap64;omega] at this)
   have HIN9:=Lib.hid (ints_shown (ints_shown HIN.out HKR.out.shown HKR.out.size) (Shown.below (S:=T) hb9') hb9'.size)
   have HSC9:=Lib.hid (ints_shown (ints_shown HS.out HKW.out.shown HKW.out.size) (Shown.below (S:=T) hb9') hb9'.size)
   clear x0 x1 x2 x3 xl e0 e1 e2 e3 hb9 hb9' HGR hq
   have x0:=HX9.out.cell 0 rfl
   have x1:=HX9.out.cell 1 rfl
   have x2:=HX9.out.cell 2 rfl
   have x3:=HX9.out.cell 3 rfl
   have xl:=HX9.out.lt
   have g0:=BX9.out.cell 0 rfl
   have g1:=BX9.out.cell 1 rfl
   have g2:=BX9.out.cell 2 rfl
   have g3:=BX9.out.cell 3 rfl
   have gl:=BX9.out.lt
   have w0:=HW9.out.cell 0 rfl
   have wl:=HW9.out.lt
   cases q with
   | true=>
    go_wp2_with fail
    refine (HC.out _ _ HIN9.out (Nat.le_refl _)).mono ?_
    rintro e W10 ⟨rfl,ms2,hm2,hj2,hk2⟩
    have HM2:=Lib.hid hm2
    have HJ10:=Lib.hid hj2
    have HK10:=Lib.hid ((HKR.out.trans (.of_below HB9.out)).trans hk2)
    clear hm2 hj2 hk2 x0 x1 x2 x3 xl g0 g1 g2 g3 gl w0 wl HC
    go_wp2_with fail
    go_roundg (lt-(j+1))
    case measure=>omega
    case rel=>exact ⟨j+1,ms++ms2,rfl,by omega,by go_num,Lib.hid (by rw[List.map_append,HM.out,HM2.out,Trm.preL_snoc HY.out,List.map_append];rfl),Lib.hid (by rw[←List.append_assoc];exact HJ10.out),HK10⟩
   | false=>
    by_cases hlast:j+1=lt
    ·have f1:((j:Int)==(lt:Int)-1)=true:=by simp;omega
     go_wp2_with fail
     refine (HC.out _ _ HIN9.out (Nat.le_refl _)).mono ?_
     rintro e W10 ⟨rfl,ms2,hm2,hj2,hk2⟩
     have HM2:=Lib.hid hm2
     have HJ10:=Lib.hid hj2
     have HK10:=Lib.hid ((HKR.out.trans (.of_below HB9.out)).trans hk2)
     clear hm2 hj2 hk2 x0 x1 x2 x3 xl g0 g1 g2 g3 gl w0 wl HC
     go_wp2_with fail
     go_roundg (lt-(j+1))
     case measure=>omega
     case rel=>exact ⟨j+1,ms++ms2,rfl,by omega,by go_num,Lib.hid (by rw[List.map_append,HM.out,HM2.out,Trm.preL_snoc HY.out,List.map_append];rfl),Lib.hid (by rw[←List.append_assoc];exact HJ10.out),HK10⟩
    ·have f1:((j:Int)==(lt:Int)-1)=false:=by simp;omega
     go_wp2_with fail
     refine (HC.out _ _ HSC9.out (by simp)).mono ?_
     rintro e W10 ⟨rfl,ms2,hm2,hj2,hk2⟩
     have HM2:=Lib.hid hm2
     have HJ10:=Lib.hid hj2
     have HK10:=Lib.hid ((HKR.out.trans (.of_below HB9.out)).trans hk2)
     clear hm2 hj2 hk2 x0 x1 x2 x3 xl g0 g1 g2 g3 gl w0 wl HC
     go_wp2_with fail
     go_roundg (lt-(j+1))
     case measure=>omega
     case rel=>exact ⟨j+1,ms++ms2,rfl,by omega,by go_num,Lib.hid (by rw[List.map_append,HM.out,HM2.out,Trm.preL_snoc HY.out,List.map_append];rfl),Lib.hid (by rw[←List.append_assoc];exact HJ10.out),HK10⟩
  ·obtain rfl:j=lt:=by omega
   have HM2:=Lib.hid (show ms.map Met.key=(Trm.pre (.mk o n v t)).map Trm.key by
    rw[HM.out,List.take_of_length_le (by rw[←HLT.out];exact Nat.le_refl _)];rfl)
   go_wp2_with fail
   refine wpIn_wide.2 ?_
   go_wp2_with fail
   go_ret
   exact ⟨rfl,ms,HM2.out,HJR.out,HKW.out⟩
end
end Go.Proofs.YtgbibibmpoekiaaGreatDoor
