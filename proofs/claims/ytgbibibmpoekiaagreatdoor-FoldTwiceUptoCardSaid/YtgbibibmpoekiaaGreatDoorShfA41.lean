/-
  What the proofs lean on: FlB, FlC, FlD.
-/
import Derived.BigQuiet
import Derived.Test.YtgbibibmpoekiaaGreatDoorShfA12
import Derived.Test.YtgbibibmpoekiaaGreatDoorShfA14
import Derived.Test.YtgbibibmpoekiaaGreatDoorShfA16
import Derived.Test.YtgbibibmpoekiaaGreatDoorShfA40
set_option maxRecDepth 100000
set_option maxHeartbeats 16000000
namespace Go.Proofs.YtgbibibmpoekiaaGreatDoor
section
open Go Go.RowKit
theorem rconsts_any (l m:List Dat) (v u:Value) (B:Nat) (w:World) (hv:RepS w B l v) (hu:RepS w B m u) (hB:B≤w.heap.size) (r:Bool) (hr:all2 Dat.alike l m=r) :
  Calls Tryz.prog 20 #[v,u] w fun e w'=>e=.returned (.bool r)∧Below w.heap.size w w':=by
 obtain ⟨o,len,cap,rfl,hl,hcap,hmax,hc⟩:=hv
 obtain ⟨o',len',cap',rfl,hl',hcap',hmax',hc'⟩:=hu
 have HL:=Lib.hid hl
 have HL':=Lib.hid hl'
 have HC:=Lib.hid hc
 have HC':=Lib.hid hc'
 have HR:=Lib.hid hr
 clear hl hl' hc hc' hr
 by_cases hlen:len=len'
 ·subst hlen
  go_enter Tryz.func20,Tryz.ntmps20
  go_wp2_with fail
  go_loopg [5] len (fun g i wr=>∃j:Nat,g=len-j∧j≤len∧i=.int .i64 j∧Hid (∀(q:Nat) (x y:Dat),q<j→l[q]?=some x→m[q]?=some y→Dat.alike x y=true)∧Hid (Below w.heap.size w wr))
  case atStart=>exact ⟨0,rfl,by omega,rfl,Lib.hid fun q x y h=>absurd h (by omega),Lib.hid (Below.refl _ _)⟩
  case round=>
   obtain ⟨j,rfl,hj,rfl,HQ2,HB⟩:=hrel
   have hsz:=HB.out.size
   by_cases hjl:j<len
   ·obtain ⟨x,hx⟩:∃x,l[j]?=some x:=⟨_,List.getElem?_eq_getElem (by rw[←HL.out];exact hjl)⟩
    obtain ⟨y,hy⟩:∃y,m[j]?=some y:=⟨_,List.getElem?_eq_getElem (by rw[←HL'.out];exact hjl)⟩
    obtain ⟨b1,off1,k1,n1,d1,s1,l1,o1,len1,cap1,ho1,hx1,e0,e1,e2,e3,e4,er⟩:=part_at2 HC.out (HB.out.mono hB) hx
    obtain ⟨b2,off2,k2,n2,d2,s2,l2,o2,len2,cap2,ho2,hx2,f0,f1,f2,f3,f4,fr⟩:=part_at2 HC'.out (HB.out.mono hB) hy
    subst ho1 ho2 hx1 hx2
    have ER:=Lib.hid er
    have FR:=Lib.hid fr
    have HX:=Lib.hid hx
    have HY:=Lib.hid hy
    have hl1:=cell_lt e0
    have hl2:=cell_lt f0
    obtain ⟨q,hq⟩:∃q,Dat.alike (.mk k1 n1 d1 s1 l1) (.mk k2 n2 d2 s2 l2)=q:=⟨_,rfl⟩
    have HQQ:=Lib.hid hq
    have HD:=Lib.hid ((Below.refl wr.heap.size wr).drew)
    clear hx hy er fr hq
    go_upto_region 6 with fail
    refine wp_region_quiet_all (Below wr.heap.size wr) (by kernel_rfl) (by kernel_rfl) HD.out ?_
    intro T _ W HW HW2
    have g0:∀t,(W t).cell? _=_:=fun t=>((HW t).cell (p:=⟨b1,off1+j*5,none⟩) hl1).trans e0
    have g1:∀t,(W t).cell? _=_:=fun t=>((HW t).cell (p:=⟨b1,off1+j*5+1,none⟩) hl1).trans e1
    have g2:∀t,(W t).cell? _=_:=fun t=>((HW t).cell (p:=⟨b1,off1+j*5+2,none⟩) hl1).trans e2
    have g3:∀t,(W t).cell? _=_:=fun t=>((HW t).cell (p:=⟨b1,off1+j*5+3,none⟩) hl1).trans e3
    have g5:∀t,(W t).cell? _=_:=fun t=>((HW t).cell (p:=⟨b1,off1+j*5+4,none⟩) hl1).trans e4
    have j0:∀t,(W t).cell? _=_:=fun t=>((HW t).cell (p:=⟨b2,off2+j*5,none⟩) hl2).trans f0
    have j1:∀t,(W t).cell? _=_:=fun t=>((HW t).cell (p:=⟨b2,off2+j*5+1,none⟩) hl2).trans f1
    have j2:∀t,(W t).cell? _=_:=fun t=>((HW t).cell (p:=⟨b2,off2+j*5+2,none⟩) hl2).trans f2
    have j3:∀t,(W t).cell? _=_:=fun t=>((HW t).cell (p:=⟨b2,off2+j*5+3,none⟩) hl2).trans f3
    have j5:∀t,(W t).cell? _=_:=fun t=>((HW t).cell (p:=⟨b2,off2+j*5+4,none⟩) hl2).trans f4
    have HCC:=Lib.hid (fun t=>show Calls Tryz.prog 32 #[.agg #[.int .i64 k1,.int .i64 n1,.int .i64 d1,.string s1,.slice o1 len1 cap1],.agg #[.int .i64 k2,.int .i64 n2,.int .i64 d2,.string s2,.slice o2 len2 cap2]] (W t) fun e w'=>e=.returned (.bool q)∧Below (W t).heap.size (W t) w' from by
     rw[←HQQ.out]
     exact ralike_any _ _ _ _ B (W t) (ER.out.kept ((HW t).mono (by omega))) (FR.out.kept ((HW t).mono (by omega))) (by have:=(HW t).size;omega))
    have HWH:=Lib.hid HW
    have HWW:=Lib.hid HW2
    clear HW HW2 e0 e1 e2 e3 e4 f0 f1 f2 f3 f4
    repeat (go_big_quiet_step (first | (go_at_call 32;refine (HCC.out _).mono ?_;rintro e1 w1 ⟨rfl,hb⟩;exact ⟨rfl,HWW.out _ (Below.next (HWH.out _) hb)⟩) | fail))
    refine wpQuiet_nil ?_
    intro t
    have HBT:=Lib.hid (HB.out.trans ((HWH.out t).mono HB.out.size))
    clear g0 g1 g2 g3 g5 j0 j1 j2 j3 j5 HCC HWW HWH
    cases q with
    | true=>
     go_wp2_with fail
     go_roundg (len-(j+1))
     case measure=>omega
     case rel=>
      refine ⟨j+1,rfl,by omega,by go_num,Lib.hid ?_,HBT⟩
      intro p x y hp hx hy
      by_cases hpj:p<j
      ·exact HQ2.out p x y hpj hx hy
      ·obtain rfl:p=j:=by omega
       obtain rfl:=Option.some.inj (hx.symm.trans HX.out)
       obtain rfl:=Option.some.inj (hy.symm.trans HY.out)
       exact HQQ.out
    | false=>
     obtain rfl:false=r:=by rw[←HR.out];exact (all2_false HX.out HY.out HQQ.out).symm
     go_wp2_with fail
     go_ret
     exact ⟨rfl,HBT.out⟩
   ·obtain rfl:j=len:=by omega
    have HF:=Lib.hid (show true=r by
     rw[←HR.out]
     refine (all2_all (by rw[←HL.out,←HL'.out]) fun i x y hx hy=>HQ2.out i x y ?_ hx hy).symm
     have:=(List.getElem?_eq_some_iff.1 hx).1
     rw[HL.out];exact this)
    obtain rfl:=HF.out
    go_wp2_with fail
    go_ret
    exact ⟨rfl,HB.out⟩
 ·have HF:=Lib.hid (show false=r from by
   rw[←HR.out]
   cases h:all2 Dat.alike l m with
   | false=>rfl
   | true=>exact absurd (all2_len h) (by rw[←HL.out,←HL'.out];exact hlen))
  obtain rfl:=HF.out
  have hne:((len:Int)==(len':Int))=false:=by
   rw[beq_eq_false_iff_ne];intro e;exact hlen (by omega)
  go_enter Tryz.func20,Tryz.ntmps20
  go_wp2_with fail
  go_ret
  exact ⟨rfl,Below.refl _ _⟩
end
section
open Go Go.RowKit
theorem slC_of_boxT {w:World} {b n:Nat} {te:TypeId} {l:List Trm} {cs:List Value} (hb:BoxL w b te cs) (hc:CellsG 4 (TrmR w w.heap.size) l cs) (hn:n=l.length) (hm:n≤1000000):SlC w w.heap.size 4 (TrmR w w.heap.size) l (.slice (some ⟨b,0,none⟩) n n):=by
 refine ⟨_,n,n,rfl,hn,Nat.le_refl _,by omega,fun _=>⟨rfl,hb.lt⟩,fun i x hx=>?_⟩
 obtain ⟨cs',h1,h2,h3⟩:=hc.at hx
 exact ⟨cs',h1,fun j u hj=>by have:=h3 j u hj;simpa using hb.cell _ this,h2⟩
def Fd.awX:Trm:=.mk 10 0 [] [.mk 0 0 [] [],.mk 0 0 [] []]
theorem Fd.awConv:Fd.conv [Prims.num 2 1] Fd.awX=some (.mk 0 1 [] [],[Prims.num 2 1,Prims.num 4 1]):=by kernel_rfl
theorem awake11_any (w:World) (hE:Env w):Calls Tryz.prog 8 #[] w fun e w'=>e=.returned (.bool true)∧Below w.heap.size w w':=by
 obtain ⟨W3,hW3⟩:∃W3,((w.alloc (.cells #[.int .i64 0,.int .i64 2,.int .i64 1,.string ⟨#[]⟩,.slice none 0 0] 45)).alloc (.cells #[.int .i64 0,.int .i64 0,.slice none 0 0,.slice none 0 0,.int .i64 0,.int .i64 0,.slice none 0 0,.slice none 0 0] 26)).alloc (.cells #[.slice (some ⟨w.heap.size,0,none⟩) 1 1,.int .i64 10,.int .i64 0,.slice none 0 0,.slice (some ⟨w.heap.size+1,0,none⟩) 2 2] 28)=W3:=⟨_,rfl⟩
 have HB3:=Lib.hid (show Below w.heap.size w W3 from by rw[←hW3];exact ((Below.one w _).trans ((Below.one _ _).mono (by simp))).trans ((Below.one _ _).mono (by simp;omega)))
 have HX3:=Lib.hid (show BoxL W3 (w.heap.size+1+1) 28 [.slice (some ⟨w.heap.size,0,none⟩) 1 1,.int .i64 10,.int .i64 0,.slice none 0 0,.slice (some ⟨w.heap.size+1,0,none⟩) 2 2] from by rw[←hW3];exact BoxL.new (by simp) _ _)
 have HC:=Lib.hid (show Calls Tryz.prog 10 #[.agg #[.slice (some ⟨w.heap.size,0,none⟩) 1 1,.int .i64 10,.int .i64 0,.slice none 0 0,.slice (some ⟨w.heap.size+1,0,none⟩) 2 2]] W3 (CvPost (some (.mk 0 1 [] [],[Prims.num 2 1,Prims.num 4 1])) W3) from by
  rw[←Fd.awConv]
  have hbT:BoxL W3 (w.heap.size+1) 26 [.int .i64 0,.int .i64 0,.slice none 0 0,.slice none 0 0,.int .i64 0,.int .i64 0,.slice none 0 0,.slice none 0 0]:=by
   rw[←hW3];exact (BoxL.new (by simp) _ _).alloc _
  have hz:∀B,TrmR W3 B (.mk 0 0 [] []) [.int .i64 0,.int .i64 0,.slice none 0 0,.slice none 0 0]:=fun B=>trmR_iff.2 ⟨_,_,rfl,⟨by omega,by omega⟩,⟨by omega,by omega⟩,⟨none,0,0,rfl,rfl,by omega,by omega,rfl,rfl⟩,⟨none,0,0,rfl,rfl,by omega,by omega,rfl,rfl⟩⟩
  refine fconvert_any [Prims.num 2 1] Fd.awX _ _ _ _ _ W3.heap.size W3 ?_ ?_ (Nat.le_refl _) (env_kept hE HB3.out) (by decide +kernel) (fun _=>by decide +kernel) (fun _ d hd=>?_)
  ·have h1:RepD (hide w (fun _=>False)) w.heap.size (Prims.num 2 1) (.agg #[.int .i64 0,.int .i64 2,.int .i64 1,.string ⟨#[]⟩,.slice none 0 0]):=rep_leaf 0 2 1 ⟨#[]⟩ (by omega) (by omega) (by omega) (by decide)
   have h2:=(GrownS.one (S:=fun _=>False) (fun _ h=>h.elim) h1).rep.unhide
   have h3:Below (w.heap.size+1) (w.alloc (.cells #[.int .i64 0,.int .i64 2,.int .i64 1,.string ⟨#[]⟩,.slice none 0 0] 45)) W3:=by
    rw[←hW3];exact ((Below.refl _ _).alloc (by simp) _).alloc (by simp) _
   rw[World.size_alloc] at h2
   exact (h2.kept h3).wider (by rw[←hW3];simp)
  ·exact trmR_iff.2 ⟨_,_,rfl,⟨by omega,by omega⟩,⟨by omega,by omega⟩,⟨none,0,0,rfl,rfl,by omega,by omega,rfl,rfl⟩,slC_of_boxT (n:=2) hbT (l:=[.mk 0 0 [] [],.mk 0 0 [] []]) ⟨_,_,rfl,rfl,hz _,⟨_,_,rfl,rfl,hz _,rfl⟩⟩ rfl (by omega)⟩
  ·rw[List.mem_singleton.1 hd];decide +kernel)
 have HW:=Lib.hid hW3
 clear hW3 hE
 go_enter Tryz.func8,Tryz.ntmps8
 go_upto_region 2 with fail
 rw[HW.out]
 clear HW
 have x0:=HX3.out.cell 0 rfl
 have x1:=HX3.out.cell 1 rfl
 have x2:=HX3.out.cell 2 rfl
 have x3:=HX3.out.cell 3 rfl
 have x4:=HX3.out.cell 4 rfl
 have xl:=HX3.out.lt
 go_wp2_with fail
 refine HC.out.mono ?_
 rintro e W4 ⟨hb4,oc,lc,kc,o,n,ov,lv,cv,ot,lt,ct,rfl,hr,ht⟩
 have HB4:=Lib.hid (HB3.out.trans (hb4.mono HB3.out.size))
 obtain ⟨vs,ts,he,_,_,_,_⟩:=trmR_iff.1 ht
 simp only[List.cons.injEq,Value.int.injEq,true_and,and_true] at he
 have hn0:o=0:=he.1
 have hn1:n=1:=he.2.1
 subst hn0 hn1
 clear he
 obtain ⟨o2,l2,c2,he,hl2,hc2,_,hm⟩:=hr
 simp only[Value.slice.injEq] at he
 obtain ⟨rfl,rfl,rfl⟩:=he
 obtain ⟨b,off,k1,n1,d1,s1,l1,o1,len1,cap1,ho1,hx1,e0,e1,e2,e3,e4,er⟩:=part_at2 (j:=1) hm (Below.refl _ _) rfl
 subst ho1
 simp only[Prims.num,Dat.mk.injEq] at hx1
 obtain ⟨rfl,rfl,rfl,rfl,rfl⟩:=hx1
 obtain rfl:lc=2:=hl2
 have el:=cell_lt e1
 simp only[Nat.one_mul] at e1
 clear hb4 HC HX3 HB3 x0 x1 x2 x3 x4 xl hm er e0 e2 e3 e4 ht
 go_wp2_with fail
 go_ret
 exact ⟨rfl,HB4.out.trans ((Below.one W4 _).mono HB4.out.size)⟩
end
section
open Go Go.RowKit
theorem talike_self (x:Trm):∀(c0 c1 c2 c3 d0 d1 d2 d3:Value) (B:Nat) (w:World),TrmR w B x [c0,c1,c2,c3]→TrmR w B x [d0,d1,d2,d3]→B≤w.heap.size →
  Calls Tryz.prog 13 #[.agg #[c0,c1,c2,c3],.agg #[d0,d1,d2,d3]] w fun e w'=>e=.returned (.bool true)∧Below w.heap.size w w':=by
 induction x using Trm.ind with
 | _ o n v t ih=>
  intro c0 c1 c2 c3 d0 d1 d2 d3 B w hv hu hB
  obtain ⟨vs,q,len,cap,rfl,rfl,rfl,rfl,hs,hvv,hlen,hmx⟩:=trm_boxed hv
  obtain ⟨vs',q',len',cap',rfl,rfl,rfl,rfl,hs',hvv',hlen',_⟩:=trm_boxed hu
  obtain ⟨ov,lv,cv,rfl⟩:=hvv.form
  obtain ⟨ov',lv',cv',rfl⟩:=hvv'.form
  obtain ⟨hlv,hlc,hlm⟩:=hvv.lens
  obtain rfl:len'=len:=hlen'.trans hlen.symm
  obtain rfl:lv'=lv:=hvv'.lens.1.trans hlv.symm
  obtain ⟨W2,hW2⟩:∃W2,(w.alloc (.cells #[.int .i64 o,.int .i64 n,.slice ov lv' cv,.slice q len' cap] 26)).alloc (.cells #[.int .i64 o,.int .i64 n,.slice ov' lv' cv',.slice q' len' cap'] 26)=W2:=⟨_,rfl⟩
  have HB2:=Lib.hid (show Below w.heap.size w W2 from by rw[←hW2];exact (Below.one w _).trans ((Below.one _ _).mono (by simp)))
  have HX2:=Lib.hid (show BoxL W2 w.heap.size 26 [.int .i64 o,.int .i64 n,.slice ov lv' cv,.slice q len' cap] from by rw[←hW2];exact (BoxL.new rfl _ _).alloc _)
  have HY2:=Lib.hid (show BoxL W2 (w.heap.size+1) 26 [.int .i64 o,.int .i64 n,.slice ov' lv' cv',.slice q' len' cap'] from by rw[←hW2];exact BoxL.new (by simp) _ _)
  have IH:=Lib.hid ih
  have HS:=Lib.hid hs
  have HS':=Lib.hid hs'
  have HV:=Lib.hid hvv
  have HV':=Lib.hid hvv'
  have HL:=Lib.hid hlen
  have HLV:=Lib.hid hlv
  have HW:=Lib.hid hW2
  clear ih hv hu hs hs' hvv hvv' hlen hlen' hlv hW2
  go_enter Tryz.func13,Tryz.ntmps13
  go_upto_region 1 with fail
  rw[HW.out]
  clear HW
  have x0:=HX2.out.cell 0 rfl
  have x1:=HX2.out.cell 1 rfl
  have x2:=HX2.out.cell 2 rfl
  have x3:=HX2.out.cell 3 rfl
  have xl:=HX2.out.lt
  have y0:=HY2.out.cell 0 rfl
  have y1:=HY2.out.cell 1 rfl
  have y2:=HY2.out.cell 2 rfl
  have y3:=HY2.out.cell 3 rfl
  have yl:=HY2.out.lt
  go_wp2_with fail
  clear x0 x1 x2 x3 xl y0 y1 y2 y3 yl
  go_loopg [5] lv' (fun g i wr=>∃(j:Nat),g=lv' - j∧i=.int .i64 j∧j≤lv'∧Hid (Below W2.heap.size W2 wr))
  case atStart=>exact ⟨0,rfl,rfl,by omega,Lib.hid (Below.refl _ _)⟩
  case round=>
   obtain ⟨j,rfl,rfl,hj,HBR⟩:=hrel
   have HXR:=Lib.hid (HX2.out.keep HBR.out)
   have HYR:=Lib.hid (HY2.out.keep HBR.out)
   have HBW:=Lib.hid (HB2.out.trans (HBR.out.mono HB2.out.size))
   have x2:=HXR.out.cell 2 rfl
   have xl:=HXR.out.lt
   have y2:=HYR.out.cell 2 rfl
   have yl:=HYR.out.lt
   by_cases hjl:j<lv'
   ·obtain ⟨z,hz⟩:∃z,v[j]?=some z:=⟨_,List.getElem?_eq_getElem (by rw[←HLV.out];exact hjl)⟩
    obtain ⟨b1,o1,e1,ho1,_,_,h1,hi1,_⟩:=SlC.at HV.out (HBW.out.mono hB) hz
    obtain ⟨b2,o2,e2,ho2,_,_,h2,hi2,_⟩:=SlC.at HV'.out (HBW.out.mono hB) hz
    subst ho1 ho2 hi1 hi2
    have e1:=h1 0 _ rfl
    have e2:=h2 0 _ rfl
    simp only[Nat.add_zero,Nat.mul_one] at e1 e2
    have l1:=cell_lt e1
    have l2:=cell_lt e2
    clear h1 h2 hz
    go_upto_region 6 with fail
    have HD:=Lib.hid ((Below.refl wr.heap.size wr).drew)
    refine wp_region_quiet_all (Below wr.heap.size wr) (by kernel_rfl) (by kernel_rfl) HD.out ?_
    intro T _ W HW HW2
    have X2:∀t,(W t).cell? _=_:=fun t=>((HW t).cell (p:=⟨w.heap.size,2,none⟩) xl).trans x2
    have Y2:∀t,(W t).cell? _=_:=fun t=>((HW t).cell (p:=⟨w.heap.size+1,2,none⟩) yl).trans y2
    have E1:∀t,(W t).cell? _=_:=fun t=>((HW t).cell (p:=⟨b1,o1+j,none⟩) l1).trans e1
    have E2:∀t,(W t).cell? _=_:=fun t=>((HW t).cell (p:=⟨b2,o2+j,none⟩) l2).trans e2
    have HWH:=Lib.hid HW
    clear HW HW2 e1 e2 x2 y2
    repeat (go_big_quiet_step (fail))
    refine wpQuiet_nil ?_
    intro t
    have HBT:=Lib.hid (HBR.out.trans ((HWH.out t).mono HBR.out.size))
    clear X2 Y2 E1 E2 HWH
    go_wp2_with fail
    go_roundg (lv' - (j+1))
    case measure=>omega
    case rel=>exact ⟨j+1,rfl,by go_num,by omega,HBT⟩
   ·obtain rfl:j=lv':=by omega
    go_wp2_with fail
    clear x2 xl y2 yl
    obtain ⟨W3,rfl⟩:∃W3,W3=wr:=⟨_,rfl⟩
    have HB3:=Lib.hid (HB2.out.trans (HBR.out.mono HB2.out.size))
    go_loopg [6] len' (fun g i wx=>∃(k:Nat),g=len' - k∧i=.int .i64 k∧k≤len'∧Hid (Below W3.heap.size W3 wx))
    case atStart=>exact ⟨0,rfl,rfl,by omega,Lib.hid (Below.refl _ _)⟩
    case round=>
     obtain ⟨k,rfl,rfl,hk,HBS⟩:=hrel
     have HXS:=Lib.hid (HXR.out.keep HBS.out)
     have HYS:=Lib.hid (HYR.out.keep HBS.out)
     have HBX:=Lib.hid (HB3.out.trans (HBS.out.mono HB3.out.size))
     have x3:=HXS.out.cell 3 rfl
     have xl:=HXS.out.lt
     have y3:=HYS.out.cell 3 rfl
     have yl:=HYS.out.lt
     by_cases hkl:k<len'
     ·obtain ⟨z,hz⟩:∃z,t[k]?=some z:=⟨_,List.getElem?_eq_getElem (by rw[←HL.out];exact hkl)⟩
      obtain ⟨b1,o1,e1,ho1,_,hl1,h1,hr1⟩:=SlC.at HS.out (HBX.out.mono hB) hz
      obtain ⟨b2,o2,e2,ho2,_,hl2,h2,hr2⟩:=SlC.at HS'.out (HBX.out.mono hB) hz
      subst ho1 ho2
      obtain ⟨p1,q1,r1,p2,q2,r2,rfl,_⟩:=trmR_form hr1
      obtain ⟨p3,q3,r3,p4,q4,r4,rfl,_⟩:=trmR_form hr2
      have a0:=h1 0 _ rfl
      have a1:=h1 1 _ rfl
      have a2:=h1 2 _ rfl
      have a3:=h1 3 _ rfl
      have b0:=h2 0 _ rfl
      have b1':=h2 1 _ rfl
      have b2':=h2 2 _ rfl
      have b3:=h2 3 _ rfl
      simp only[Nat.add_zero] at a0 b0
      have l1:=cell_lt a0
      have l2:=cell_lt b0
      have HCC:=Lib.hid (fun W (hb:Below wr.heap.size wr W)=>IH.out z (List.mem_of_getElem? hz) _ _ _ _ _ _ _ _ B W (TrmR.kept ((HBX.out.trans (hb.mono HBX.out.size)).mono hB) _ _ hr1) (TrmR.kept ((HBX.out.trans (hb.mono HBX.out.size)).mono hB) _ _ hr2) (by have:=HBX.out.size;have:=hb.size;omega))
      clear h1 h2 hz hr1 hr2 hl1 hl2
      go_upto_region 11 with fail
      have HD:=Lib.hid ((Below.refl wr.heap.size wr).drew)
      refine wp_region_quiet_all (Below wr.heap.size wr) (by kernel_rfl) (by kernel_rfl) HD.out ?_
      intro T _ W HW HW2
      have X3:∀t,(W t).cell? _=_:=fun t=>((HW t).cell (p:=⟨w.heap.size,3,none⟩) xl).trans x3
      have Y3:∀t,(W t).cell? _=_:=fun t=>((HW t).cell (p:=⟨w.heap.size+1,3,none⟩) yl).trans y3
      have A0:∀t,(W t).cell? _=_:=fun t=>((HW t).cell (p:=⟨b1,_,none⟩) l1).trans a0
      have A1:∀t,(W t).cell? _=_:=fun t=>((HW t).cell (p:=⟨b1,_,none⟩) l1).trans a1
      have A2:∀t,(W t).cell? _=_:=fun t=>((HW t).cell (p:=⟨b1,_,none⟩) l1).trans a2
      have A3:∀t,(W t).cell? _=_:=fun t=>((HW t).cell (p:=⟨b1,_,none⟩) l1).trans a3
      have B0:∀t,(W t).cell? _=_:=fun t=>((HW t).cell (p:=⟨b2,_,none⟩) l2).trans b0
      have B1:∀t,(W t).cell? _=_:=fun t=>((HW t).cell (p:=⟨b2,_,none⟩) l2).trans b1'
      have B2:∀t,(W t).cell? _=_:=fun t=>((HW t).cell (p:=⟨b2,_,none⟩) l2).trans b2'
      have B3:∀t,(W t).cell? _=_:=fun t=>((HW t).cell (p:=⟨b2,_,none⟩) l2).trans b3
      have HWH:=Lib.hid HW
      have HWW:=Lib.hid HW2
      clear HW HW2 x3 y3 a0 a1 a2 a3 b0 b1' b2' b3
      repeat (go_big_quiet_step (first | (go_at_call 13;(with_reducible refine (HCC.out _ (HWH.out _)).mono ?_);rintro e1 w1 ⟨rfl,hb⟩;exact ⟨rfl,HWW.out _ (Below.next (HWH.out _) hb)⟩) | fail))
      refine wpQuiet_nil ?_
      intro t
      have HBT:=Lib.hid (HBS.out.trans ((HWH.out t).mono HBS.out.size))
      clear X3 Y3 A0 A1 A2 A3 B0 B1 B2 B3 HWH HWW
      go_wp2_with fail
      go_roundg (len' - (k+1))
      case measure=>omega
      case rel=>exact ⟨k+1,rfl,by go_num,by omega,HBT⟩
     ·obtain rfl:k=len':=by omega
      go_wp2_with fail
      go_ret
      exact ⟨rfl,HBX.out⟩
theorem same07_self (cs:List Dat) (x:Trm) (ca c0 c1 c2 c3 cb d0 d1 d2 d3:Value) (w:World) (h1:RepS w w.heap.size cs ca) (h2:TrmR w w.heap.size x [c0,c1,c2,c3]) (h3:RepS w w.heap.size cs cb) (h4:TrmR w w.heap.size x [d0,d1,d2,d3]) (r:Bool) (hr:all2 Dat.alike cs cs=r) :
  Calls Tryz.prog 12 #[.agg #[ca,c0,c1,c2,c3],.agg #[cb,d0,d1,d2,d3]] w fun e w'=>e=.returned (.bool r)∧Below w.heap.size w w':=by
 obtain ⟨W2,hW2⟩:∃W2,(w.alloc (.cells #[ca,c0,c1,c2,c3] 28)).alloc (.cells #[cb,d0,d1,d2,d3] 28)=W2:=⟨_,rfl⟩
 have HB2:=Lib.hid (show Below w.heap.size w W2 from by rw[←hW2];exact (Below.one w _).trans ((Below.one _ _).mono (by simp)))
 have HX2:=Lib.hid (show BoxL W2 w.heap.size 28 [ca,c0,c1,c2,c3] from by rw[←hW2];exact (BoxL.new rfl _ _).alloc _)
 have HY2:=Lib.hid (show BoxL W2 (w.heap.size+1) 28 [cb,d0,d1,d2,d3] from by rw[←hW2];exact BoxL.new (by simp) _ _)
 have HC:=Lib.hid (rconsts_any cs cs ca cb w.heap.size W2 (h1.kept HB2.out) (h3.kept HB2.out) HB2.out.size r hr)
 have HA:=Lib.hid (fun W (hb:Below w.heap.size w W)=>talike_self x c0 c1 c2 c3 d0 d1 d2 d3 w.heap.size W (TrmR.kept hb _ _ h2) (TrmR.kept hb _ _ h4) hb.size)
 obtain ⟨q,r',u,q',r'',u',rfl,rfl,rfl,rfl⟩:=h2.shape2
 obtain ⟨p,s',z,p',s'',z',rfl,rfl,rfl,rfl⟩:=h4.shape2
 obtain ⟨o1,l1,k1,rfl⟩:∃o l c,ca=.slice o l c:=by obtain ⟨o,l,c,h,_⟩:=h1;exact ⟨o,l,c,h⟩
 obtain ⟨o2,l2,k2,rfl⟩:∃o l c,cb=.slice o l c:=by obtain ⟨o,l,c,h,_⟩:=h3;exact ⟨o,l,c,h⟩
 have HW:=Lib.hid hW2
 clear h1 h2 h3 h4 hW2 hr
 go_enter Tryz.func12,Tryz.ntmps12
 go_upto_region 1 with fail
 rw[HW.out]
 clear HW
 have x0:=HX2.out.cell 0 rfl
 have xl:=HX2.out.lt
 have y0:=HY2.out.cell 0 rfl
 have yl:=HY2.out.lt
 go_wp2_with fail
 refine HC.out.mono ?_
 rintro e W3 ⟨rfl,hb3⟩
 have HB3:=Lib.hid (HB2.out.trans (hb3.mono HB2.out.size))
 have HX3:=Lib.hid (HX2.out.keep hb3)
 have HY3:=Lib.hid (HY2.out.keep hb3)
 have HA3:=Lib.hid (HA.out W3 HB3.out)
 clear hb3 HC HX2 HY2 HB2 HA x0 xl y0 yl
 cases r with
 | false=>
  go_wp2_with fail
  go_ret
  exact ⟨rfl,HB3.out⟩
 | true=>
  have x1:=HX3.out.cell 1 rfl
  have x2:=HX3.out.cell 2 rfl
  have x3:=HX3.out.cell 3 rfl
  have x4:=HX3.out.cell 4 rfl
  have xl:=HX3.out.lt
  have y1:=HY3.out.cell 1 rfl
  have y2:=HY3.out.cell 2 rfl
  have y3:=HY3.out.cell 3 rfl
  have y4:=HY3.out.cell 4 rfl
  have yl:=HY3.out.lt
  go_wp2_with fail
  refine HA3.out.mono ?_
  rintro e W4 ⟨rfl,hb4⟩
  have HB4:=Lib.hid (HB3.out.trans (hb4.mono HB3.out.size))
  clear hb4
  go_wp2_with fail
  go_ret
  exact ⟨rfl,HB4.out⟩
end
end Go.Proofs.YtgbibibmpoekiaaGreatDoor
