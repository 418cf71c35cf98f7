/-
  What the proofs lean on: CkF, CkG.
-/
import Derived.Test.YtgbibibmpoekiaaGreatDoorShfA26
set_option maxRecDepth 100000
set_option maxHeartbeats 16000000
namespace Go.Proofs.YtgbibibmpoekiaaGreatDoor
section
open Go Go.RowKit
theorem cright_plain (op n:Int) (v:List Int) (ts:List Trm) (ov ot:Option Addr) (lv cv lt ct:Nat) (B cb bb sb:Nat) (nc nk size:Int) (fr:Bool) (l:List Int) (sc:Int→Bool) (deep:Int) (W:World) (hc:ChkS W cb bb sb nc nk fr size l sc)
  (hvv:SlC W B 1 IntR v (.slice ov lv cv)) (htt:TrmS W B ts (.slice ot lt ct)) (hS:∀b,S3 cb bb sb b→B≤b) (hB:B≤W.heap.size) (hsc:∀v,sc v=true→v∈l) (ih:∀x∈ts,RightC x) (hlt:lt=ts.length) (hct:lt≤1000000)
  (h0:0≤size) (h1:size+1+Trm.allL ts≤20000) (h2:0≤deep) (h3:deep+1+Trm.allL ts≤401) (f t le:Int) (any binds:Bool) (f1:f≤2) (f2:2≤t) (hop:op≠9) (hgr:(op==7 || op==9)=false)
  (HSH:∀W,Calls Tryz.prog 61 #[.int .i64 op] W fun e w'=>e=.returned (.tuple #[.agg #[.int .i64 f,.int .i64 t,.int .i64 le,.bool any,.bool binds],.bool true])∧Below W.heap.size W w')
  (HFT:∀W,Calls Tryz.prog 62 #[.agg #[.int .i64 f,.int .i64 t,.int .i64 le,.bool any,.bool binds],.agg #[.int .i64 op,.int .i64 n,.slice ov lv cv,.slice ot lt ct]] W fun e w'=>e=.returned (.bool true)∧Below W.heap.size W w')
  (HNU:∀W,ChkS W cb bb sb nc nk fr (size+1) l sc→Calls Tryz.prog 63 #[.pointer (some ⟨cb,0,none⟩),.agg #[.int .i64 op,.int .i64 n,.slice ov lv cv,.slice ot lt ct],.map (some sb)] W fun e w'=>e=.returned (.bool true)∧Below W.heap.size W w')
  (r:Bool) (hr:plainR nc nk fr sc l v ts=r) :
  Calls Tryz.prog 34 #[.pointer (some ⟨cb,0,none⟩),.agg #[.int .i64 op,.int .i64 n,.slice ov lv cv,.slice ot lt ct],.map (some sb),.int .i64 deep] W (ChkPost cb bb sb nc nk fr r (GoodR cb bb sb nc nk fr (size+1+Trm.allL ts) l (Trm.bndL (ts.take (ts.length-1))++v++Trm.bndL (ts.drop (ts.length-1))) sc) W):=by
 have hmf:∀(fn:Fn) (first cap:Array Value) (w:World),(Instr.makeFunc fn first cap).run Tryz.prog w=.ok (.func fn first cap) w:=fun _ _ _ _=>rfl
 obtain ⟨W1,hW1⟩:∃W1,((((W.alloc (.cells #[.pointer (some ⟨cb,0,none⟩)] 62)).alloc (.cells #[.int .i64 op,.int .i64 n,.slice ov lv cv,.slice ot lt ct] 26)).alloc (.cells #[.map (some sb)] 63)).alloc (.cells #[.int .i64 deep] 3)).setCell ⟨cb,4,none⟩ (.int .i64 (size+1))=W1:=⟨_,rfl⟩
 have hbelow:=below_four W (.cells #[.pointer (some ⟨cb,0,none⟩)] 62) (.cells #[.int .i64 op,.int .i64 n,.slice ov lv cv,.slice ot lt ct] 26) (.cells #[.map (some sb)] 63) (.cells #[.int .i64 deep] 3)
 have HW:=Lib.hid hW1
 have HT1:=Lib.hid (show Turned (S3 cb bb sb) W W1 from by rw[←hW1];exact (Turned.of_below hbelow).next (Turned.set _ _ _ (.inl rfl)))
 have HC1:=Lib.hid (show ChkS W1 cb bb sb nc nk fr (size+1) l sc from by rw[←hW1];exact (hc.keep hbelow).sized _)
 have HX1:=Lib.hid (show RBox W1 W.heap.size cb sb op n (.slice ov lv cv) (.slice ot lt ct) deep from by
  rw[←hW1]
  exact (RBox.new W cb sb op n (.slice ov lv cv) (.slice ot lt ct) deep).turned (Turned.set (S:=fun b=>b=cb) _ _ _ rfl) (fun b hb=>by rw[hb];exact hc.box.lt))
 have c4:=(hc.box.keep hbelow).cell 4 rfl
 have cz:=(hc.box.keep hbelow).free 4
 have cl:=hc.box.lt
 have HC:=Lib.hid hc
 have HSH:=Lib.hid HSH
 have HFT:=Lib.hid HFT
 have HNU:=Lib.hid HNU
 have HVV:=Lib.hid hvv
 have HTT:=Lib.hid htt
 have HIH:=Lib.hid ih
 have HSB:=Lib.hid hS
 have HSC:=Lib.hid hsc
 have HR:=Lib.hid hr
 have HLT:=Lib.hid hlt
 clear hW1 hbelow hc hvv htt ih hS hsc hr hlt
 go_enter_defers Tryz.func34,Tryz.ntmps34
 go_upto_region 2 with fail
 rw[HW.out]
 have t0:=HX1.out.t.cell 0 rfl
 have tl:=HX1.out.t.lt
 clear c4 cz cl
 go_wp2_with fail
 refine (HSH.out _).mono ?_
 rintro e w1 ⟨rfl,hb1⟩
 have HB1:=Lib.hid hb1
 clear hb1 HSH t0 tl
 go_upto_region 3 with fail
 obtain ⟨W3,hW3⟩:∃W3,w1.alloc (.cells #[.int .i64 f,.int .i64 t,.int .i64 le,.bool any,.bool binds] 87)=W3:=⟨_,rfl⟩
 have HB3:=Lib.hid (show Below W1.heap.size W1 W3 from by rw[←hW3];exact Below.next HB1.out (Below.one w1 _))
 have B9:=Lib.hid (show BoxL W3 w1.heap.size 87 [.int .i64 f,.int .i64 t,.int .i64 le,.bool any,.bool binds] from by rw[←hW3];exact BoxL.new rfl _ _)
 rw[hW3]
 clear hW3
 have HX3:=Lib.hid (HX1.out.turned (Turned.of_below (S:=fun _=>False) HB3.out) (fun _ h=>h.elim))
 have HC3:=Lib.hid (HC1.out.keep HB3.out)
 have HD:=Lib.hid ((Below.refl W3.heap.size W3).drew)
 have g0:decide (400<deep)=false:=decide_eq_false (by omega)
 have g1:decide (20000<size+1)=false:=decide_eq_false (by omega)
 have g2:decide (2<f)=false:=decide_eq_false (by omega)
 have g3:decide (t<2)=false:=decide_eq_false (by omega)
 have HF:=HFT
 have HN:=HNU
 refine wp_region_quiet_all (Below W3.heap.size W3) (by kernel_rfl) (by kernel_rfl) HD.out ?_
 intro T0 _ WW HWW HWW2
 have x0:∀t,(WW t).cell? _=_:=fun t=>((HWW t).cell (p:=⟨W.heap.size,0,none⟩) HX3.out.c.lt).trans (HX3.out.c.cell 0 rfl)
 have x1:∀t,(WW t).cell? _=_:=fun t=>((HWW t).cell (p:=⟨W.heap.size+1,0,none⟩) HX3.out.t.lt).trans (HX3.out.t.cell 0 rfl)
 have x2:∀t,(WW t).cell? _=_:=fun t=>((HWW t).cell (p:=⟨W.heap.size+1,1,none⟩) HX3.out.t.lt).trans (HX3.out.t.cell 1 rfl)
 have x3:∀t,(WW t).cell? _=_:=fun t=>((HWW t).cell (p:=⟨W.heap.size+1,2,none⟩) HX3.out.t.lt).trans (HX3.out.t.cell 2 rfl)
 have x4:∀t,(WW t).cell? _=_:=fun t=>((HWW t).cell (p:=⟨W.heap.size+1,3,none⟩) HX3.out.t.lt).trans (HX3.out.t.cell 3 rfl)
 have x5:∀t,(WW t).cell? _=_:=fun t=>((HWW t).cell (p:=⟨W.heap.size+1+1,0,none⟩) HX3.out.s.lt).trans (HX3.out.s.cell 0 rfl)
 have x6:∀t,(WW t).cell? _=_:=fun t=>((HWW t).cell (p:=⟨W.heap.size+1+1+1,0,none⟩) HX3.out.d.lt).trans (HX3.out.d.cell 0 rfl)
 have y0:∀t,(WW t).cell? _=_:=fun t=>((HWW t).cell (p:=⟨cb,0,none⟩) HC3.out.box.lt).trans (HC3.out.box.cell 0 rfl)
 have y4:∀t,(WW t).cell? _=_:=fun t=>((HWW t).cell (p:=⟨cb,4,none⟩) HC3.out.box.lt).trans (HC3.out.box.cell 4 rfl)
 have z0:∀t,(WW t).cell? _=_:=fun t=>((HWW t).cell (p:=⟨w1.heap.size,0,none⟩) B9.out.lt).trans (B9.out.cell 0 rfl)
 have z1:∀t,(WW t).cell? _=_:=fun t=>((HWW t).cell (p:=⟨w1.heap.size,1,none⟩) B9.out.lt).trans (B9.out.cell 1 rfl)
 have z2:∀t,(WW t).cell? _=_:=fun t=>((HWW t).cell (p:=⟨w1.heap.size,2,none⟩) B9.out.lt).trans (B9.out.cell 2 rfl)
 have z3:∀t,(WW t).cell? _=_:=fun t=>((HWW t).cell (p:=⟨w1.heap.size,3,none⟩) B9.out.lt).trans (B9.out.cell 3 rfl)
 have z4:∀t,(WW t).cell? _=_:=fun t=>((HWW t).cell (p:=⟨w1.heap.size,4,none⟩) B9.out.lt).trans (B9.out.cell 4 rfl)
 have HWH:=Lib.hid HWW
 have HW2:=Lib.hid HWW2
 clear HWW HWW2
 have HC0:Hid (∀t',Calls Tryz.prog 62 #[.agg #[.int .i64 f,.int .i64 t,.int .i64 le,.bool any,.bool binds],.agg #[.int .i64 op,.int .i64 n,.slice ov lv cv,.slice ot lt ct]] (WW t') fun e w'=>e=.returned (.bool true)∧∃t'',w'=WW t''):=Lib.hid (fun t'=>calls_class HW2.out ((HF.out (WW t')).mono fun e w' h=>⟨h.1,Below.next (HWH.out t') h.2⟩))
 have HC1:Hid (∀t',Calls Tryz.prog 63 #[.pointer (some ⟨cb,0,none⟩),.agg #[.int .i64 op,.int .i64 n,.slice ov lv cv,.slice ot lt ct],.map (some sb)] (WW t') fun e w'=>e=.returned (.bool true)∧∃t'',w'=WW t''):=Lib.hid (fun t'=>calls_class HW2.out ((HN.out (WW t') (HC3.out.keep (HWH.out t'))).mono fun e w' h=>⟨h.1,Below.next (HWH.out t') h.2⟩))
 repeat (go_big_quiet_step (first | (go_at_call 62;exact HC0.out _) | (go_at_call 63;exact HC1.out _)))
 refine wpQuiet_nil ?_
 intro t'
 obtain ⟨W4,hW4⟩:∃W4,WW t'=W4:=⟨_,rfl⟩
 have HB4:=Lib.hid (show Below W3.heap.size W3 W4 from hW4 ▸ HWH.out t')
 rw[hW4]
 clear x0 x1 x2 x3 x4 x5 x6 y0 y4 z0 z1 z2 z3 z4 HC0 HC1 hW4 HWH HW2 B9 HD
 have HX4:=Lib.hid (HX3.out.turned (Turned.of_below (S:=fun _=>False) HB4.out) (fun _ h=>h.elim))
 have HC4:=Lib.hid (HC3.out.keep HB4.out)
 have HT4:=Lib.hid (HT1.out.next (Turned.of_below (Below.next HB3.out HB4.out)))
 have HSh:=Lib.hid (show ∀b,S3 cb bb sb b→b<W.heap.size from fun b hb=>by
  rcases hb with rfl | rfl | rfl
  ·exact HC.out.box.lt
  ·exact HC.out.bound.lt
  ·exact HC.out.scope.lt)
 clear HX3 HC3 HB3 HF HN HFT HNU HT1 HC1 HX1 HW HB1
 have x0:=HX4.out.t.cell 0 rfl
 have x1:=HX4.out.t.cell 1 rfl
 have x2:=HX4.out.t.cell 2 rfl
 have x3:=HX4.out.t.cell 3 rfl
 have xl:=HX4.out.t.lt
 go_wp2_with fail
 refine (group_any op n _ _ ov ot lv cv lt ct rfl rfl W4).mono ?_
 rintro e w5 ⟨rfl,hb5⟩
 rw[hgr]
 have HT5:=Lib.hid (HT4.out.next (Turned.of_below (S:=S3 cb bb sb) hb5))
 have HX5:=Lib.hid (HX4.out.turned (Turned.of_below (S:=fun _=>False) hb5) (fun _ h=>h.elim))
 have HC5:=Lib.hid (HC4.out.keep hb5)
 clear x0 x1 x2 x3 xl hb5 HX4 HC4 HT4 HB4
 have x0:=HX5.out.t.cell 3 rfl
 have xl:=HX5.out.t.lt
 go_wp2_with fail
 go_loopg [12] (lt-1) (fun g i wr=>∃j:Nat,g=(lt-1)-j∧i=.int .i64 j∧j≤lt-1∧Hid (okL nc nk fr sc l (ts.take j)=true)∧Hid (GoodR cb bb sb nc nk fr (size+1+Trm.allL (ts.take j)) l (Trm.bndL (ts.take j)) sc wr)∧Hid (Turned (S3 cb bb sb) w5 wr))
 case atStart=>exact ⟨0,rfl,rfl,by omega,Lib.hid (by rw[List.take_zero,okL,Trm.bndL,List.append_nil,HC.out.new];rfl),Lib.hid ⟨l,by simp[Trm.bndL],by rw[List.take_zero,Trm.allL];simpa using HC5.out⟩,Lib.hid (Turned.refl _ _)⟩
 case round=>
  obtain ⟨j,rfl,rfl,hj,HOK,HG,HTU⟩:=hrel
  clear x0 xl
  have HXR:=Lib.hid (HX5.out.turned HTU.out HSh.out)
  have HTR:=Lib.hid (HT5.out.next HTU.out)
  by_cases hjl:j+1<lt
  ·obtain ⟨x,hx⟩:∃x,ts[j]?=some x:=⟨_,List.getElem?_eq_getElem (by rw[←HLT.out];omega)⟩
   obtain ⟨b,off,cs,ho,_,hcl,hcell,hir⟩:=SlC.at HTT.out (HTR.out.below HSB.out hB) hx
   subst ho
   match cs,hcl with
   | [c0,c1,c2,c3],_=>
    have e0:=hcell 0 _ rfl
    have e1:=hcell 1 _ rfl
    have e2:=hcell 2 _ rfl
    have e3:=hcell 3 _ rfl
    simp only[Nat.add_zero] at e0
    have E0:=Lib.hid e0
    have E1:=Lib.hid e1
    have E2:=Lib.hid e2
    have E3:=Lib.hid e3
    have hbl:=cell_lt e0
    have HX:=Lib.hid hx
    have HIR:=Lib.hid (TrmR.kept (HTR.out.below HSB.out hB) _ _ hir)
    have HD:=Lib.hid ((Below.refl wr.heap.size wr).drew)
    clear hx hir hcell e0 e1 e2 e3
    go_wp2_with fail
    refine wp_region_quiet_class (Below wr.heap.size wr) 9 (by kernel_rfl) (by kernel_rfl) HD.out ?_
    intro T0 _ WW HWW HWW2
    have x0:∀t,(WW t).cell? _=_:=fun t=>((HWW t).cell (p:=⟨W.heap.size,0,none⟩) HXR.out.c.lt).trans (HXR.out.c.cell 0 rfl)
    have x4:∀t,(WW t).cell? _=_:=fun t=>((HWW t).cell (p:=⟨W.heap.size+1,3,none⟩) HXR.out.t.lt).trans (HXR.out.t.cell 3 rfl)
    have x5:∀t,(WW t).cell? _=_:=fun t=>((HWW t).cell (p:=⟨W.heap.size+1+1,0,none⟩) HXR.out.s.lt).trans (HXR.out.s.cell 0 rfl)
    have x6:∀t,(WW t).cell? _=_:=fun t=>((HWW t).cell (p:=⟨W.heap.size+1+1+1,0,none⟩) HXR.out.d.lt).trans (HXR.out.d.cell 0 rfl)
    have j0:∀t,(WW t).cell? _=_:=fun t=>((HWW t).cell (p:=⟨b,off+j*4,none⟩) hbl).trans E0.out
    have j1:∀t,(WW t).cell? _=_:=fun t=>((HWW t).cell (p:=⟨b,off+j*4+1,none⟩) hbl).trans E1.out
    have j2:∀t,(WW t).cell? _=_:=fun t=>((HWW t).cell (p:=⟨b,off+j*4+2,none⟩) hbl).trans E2.out
    have j3:∀t,(WW t).cell? _=_:=fun t=>((HWW t).cell (p:=⟨b,off+j*4+3,none⟩) hbl).trans E3.out
    have HWH:=Lib.hid HWW
    clear HWW HWW2
    simp only[List.take_succ_cons,List.take_zero,List.drop_succ_cons,List.drop_zero]
    repeat (go_big_quiet_step (fail))
    refine wpQuiet_nil ?_
    intro t'
    obtain ⟨W6,hW6⟩:∃W6,WW t'=W6:=⟨_,rfl⟩
    have HB6:=Lib.hid (show Below wr.heap.size wr W6 from hW6 ▸ HWH.out t')
    rw[hW6]
    clear x0 x4 x5 x6 j0 j1 j2 j3 hW6 HWH
    obtain ⟨lj,hp,hcj⟩:=HG.out
    have HP:=Lib.hid hp
    have HCJ:=Lib.hid hcj
    have hsn:=allL_snoc HX.out
    have hle:=allLT_take ts (j+1)
    have HST:=Lib.hid (okL_step (nc:=nc) (nk:=nk) (fr:=fr) (sc:=sc) HX.out hp HOK.out)
    have HCC:=Lib.hid (HIH.out x (List.mem_of_getElem? HX.out) c0 c1 c2 c3 B cb bb sb nc nk _ fr lj sc (deep+1) W6 (TrmR.kept (Below.mono HB6.out (by have:=HTR.out.size;omega)) _ _ HIR.out) HSB.out (by have:=HTR.out.size;have:=HB6.out.size;omega) (HCJ.out.keep HB6.out) (fun v hv=>HP.out.mem_iff.2 (List.mem_append_left _ (HSC.out v hv))) (by omega) (by omega) (by omega) (by omega))
    obtain ⟨q,hq⟩:∃q,(Trm.wf nc nk fr x sc&&Trm.newB (fun _=>false) (lj++x.bnd))=q:=⟨_,rfl⟩
    rw[hq] at HCC HST
    have HSN:=Lib.hid hsn
    clear hp hcj hq hle hsn
    go_wp2_with fail
    refine HCC.out.mono ?_
    rintro e7 w7 ⟨rfl,ht7,hg7,hb7⟩
    have HT7:=Lib.hid ((Turned.of_below (S:=S3 cb bb sb) HB6.out).next ht7)
    have HG7:=Lib.hid hg7
    have HBD:=Lib.hid hb7
    clear ht7 hg7 hb7 HCC
    cases q with
    | false=>
     have hb7:=HBD.out rfl
     obtain rfl:r=false:=by rw[←HR.out,plainR,okL_more (j:=j+1) (by rw[List.take_take,Nat.min_eq_left (by have:=HLT.out;omega)];exact HST.out)];rfl
     go_wp2_with fail
     exact ⟨_,results_tmp rfl _ _ _,rfl,HTR.out.next HT7.out,fun h=>(by simp at h),fun _=>hb7⟩
    | true=>
     have HGN:=Lib.hid (show GoodR cb bb sb nc nk fr (size+1+Trm.allL (ts.take (j+1))) l (Trm.bndL (ts.take (j+1))) sc w7 from by
      obtain ⟨l2,hp2,hcs2⟩:=HG7.out rfl
      refine ⟨l2,?_,?_⟩
      ·rw[bndL_snoc HX.out,←List.append_assoc]
       exact hp2.trans (HP.out.append_right _)
      ·rw[HSN.out,show size+1+((Trm.allL (ts.take j)+x.all:Nat):Int)=size+1+(Trm.allL (ts.take j):Nat)+(x.all:Nat) by omega]
       exact hcs2)
     go_wp2_with fail
     go_roundg (lt-1-(j+1))
     case measure=>omega
     case rel=>exact ⟨j+1,rfl,by go_num,by omega,HST,HGN,Lib.hid (HTU.out.next HT7.out)⟩
  ·obtain rfl:j=lt-1:=by omega
   have HLE:=Lib.hid (show lt-1=ts.length-1 by rw[HLT.out])
   obtain ⟨lj,hp,hcj⟩:=HG.out
   rw[HLE.out] at hp hcj
   have HOK2:=HOK.out
   rw[HLE.out] at HOK2
   have HOK3:=Lib.hid HOK2
   have HP:=Lib.hid hp
   have HCJ:=Lib.hid hcj
   have x1:=HXR.out.t.cell 2 rfl
   have xl:=HXR.out.t.lt
   have x2:=HXR.out.c.cell 0 rfl
   have xl2:=HXR.out.c.lt
   have x3:=HXR.out.s.cell 0 rfl
   have xl3:=HXR.out.s.lt
   have hjl2:decide (((lt-1:Nat):Int)<(lt:Int)-1)=false:=decide_eq_false (by omega)
   clear hp hcj HOK2
   have HBI:=Lib.hid (bind_any cb bb sb nc nk fr _ lj v sc B wr ov lv cv (HVV.out.kept (HTR.out.below HSB.out hB) fun _ _ _ h=>h) HSB.out (by have:=HTR.out.size;omega) HCJ.out)
   obtain ⟨q,hq⟩:∃q,Trm.newB (fun _=>false) (lj++v)=q:=⟨_,rfl⟩
   rw[hq] at HBI
   have HQ:=Lib.hid hq
   clear hq
   go_wp2_with fail
   with_reducible refine HBI.out.mono ?_
   rintro e8 w8 ⟨rfl,ht8,hg8,hb8⟩
   have HT8:=Lib.hid (HTR.out.next ht8)
   have HG8:=Lib.hid hg8
   have HB8:=Lib.hid hb8
   have HX8:=Lib.hid (HXR.out.turned ht8 HSh.out)
   clear ht8 hg8 hb8 HBI x1 xl x2 xl2 x3 xl3
   cases q with
   | false=>
    obtain ⟨⟨sz,hb1⟩,⟨m,g,hb2⟩,⟨m2,g2,hb3⟩,hne⟩:=HB8.out rfl
    obtain rfl:r=false:=by
     rw[←HR.out,plainR,←Trm.newB_perm ((HP.out).append_right v),HQ.out]
     simp
    go_wp2_with fail
    refine leaves_cons (f:=64) (args:=#[.pointer (some ⟨W.heap.size+1,0,none⟩),.pointer (some ⟨W.heap.size+1+1,0,none⟩)]) (by simp) (by simp[go_sem]) ?_
    refine (right1_deferred op n v ov ot lv cv lt ct B (W.heap.size+1) (W.heap.size+1+1) sb m2 g2 w8 (HVV.out.kept (HT8.out.below HSB.out hB) fun _ _ _ h=>h) (by have:=HT8.out.size;omega) (HSB.out sb (.inr (.inr rfl))) HX8.out.t HX8.out.s hb3).mono ?_
    rintro e9 u9 w9 ⟨rfl,rfl,hm9,ht9⟩
    refine ⟨_,results_tmp rfl _ _ _,rfl,HT8.out.next (ht9.wider fun b _ hb=>.inr (.inr hb)),fun h=>(by simp at h),fun _=>⟨⟨sz,ht9.box hb1 (fun e=>map_box_ne hb3 hb1 e)⟩,⟨m,g,hb2.same (ht9.block _ hb2.lt (fun e=>hne e))⟩,⟨_,_,hm9⟩,hne⟩⟩
   | true=>
    have hg8:=HG8.out rfl
    have HC8:=Lib.hid hg8
    clear hg8
    have x0:=HX8.out.t.cell 0 rfl
    have x1:=HX8.out.t.cell 1 rfl
    have x2:=HX8.out.t.cell 2 rfl
    have x3:=HX8.out.t.cell 3 rfl
    have xl:=HX8.out.t.lt
    go_wp2_with fail
    with_reducible refine (group_any op n _ _ ov ot lv cv lt ct rfl rfl w8).mono ?_
    rintro e9 w9 ⟨rfl,hb9⟩
    rw[hgr]
    have HT9:=Lib.hid (HT8.out.next (Turned.of_below (S:=S3 cb bb sb) hb9))
    have HX9:=Lib.hid (HX8.out.turned (Turned.of_below (S:=fun _=>False) hb9) (fun _ h=>h.elim))
    have HC9:=Lib.hid (HC8.out.keep hb9)
    clear x0 x1 x2 x3 xl hb9 HX8 HC8
    have hmx:max ((lt:Int)-1) 0=((lt-1:Nat):Int):=by omega
    have HDW:=Lib.hid (Below.drew (Below.refl w9.heap.size w9))
    have HAL:=Lib.hid (show size+1+((Trm.allL (ts.take (ts.length-1)):Nat):Int)+((Trm.allL (ts.drop (ts.length-1)):Nat):Int)=size+1+((Trm.allL ts:Nat):Int) from by
     have:=allL_append (ts.take (ts.length-1)) (ts.drop (ts.length-1))
     rw[List.take_append_drop] at this
     omega)
    have HSC2:=Lib.hid (show ∀x,Trm.addV sc v x=true→x∈lj++v from fun x hx=>by
     simp only[Trm.addV,Bool.or_eq_true,List.contains_eq_mem,decide_eq_true_eq] at hx
     rcases hx with hx | hx
     ·exact List.mem_append_left _ (HP.out.mem_iff.2 (List.mem_append_left _ (HSC.out x hx)))
     ·exact List.mem_append_right _ hx)
    have HDJ:=Lib.hid (show ∀x,sc x=true→x∉v from fun x hx hv=>(List.nodup_append.1 ((Trm.newB_iff _ _).1 HQ.out).2).2.2 x (HP.out.mem_iff.2 (List.mem_append_left _ (HSC.out x hx))) x hv rfl)
    have HTS:=Lib.hid (TrmS.kept HTT.out ((HT9.out.next (Turned.of_below HDW.out)).below HSB.out hB))
    obtain ⟨q2,hq2⟩:∃q2,okL nc nk fr (Trm.addV sc v) (lj++v) (ts.drop (ts.length-1))=q2:=⟨_,rfl⟩
    have HQ2:=Lib.hid hq2
    clear hq2
    go_upto_region 17 with fail
    go_cut [13] from 14 to 125 (fun b wx=>b=.int .i64 ((lt-1:Nat):Int)∧w9=wx)
    case first=>as_aux_lemma=>
     go_wp2_with fail
     go_meet
     exact ⟨by first | rfl | (rw[hmx]) | (simp;omega),rfl⟩
    case rest=>
    obtain ⟨rfl,rfl⟩:=hcut
    go_upto_region 18 with fail
    go_cut [8] from 9 to 125 (fun c wx=>c=.bool q2∧Hid (Turned (S3 cb bb sb) w9 wx)∧Hid (q2=true→GoodR cb bb sb nc nk fr (size+1+Trm.allL (ts.take (ts.length-1))+Trm.allL (ts.drop (ts.length-1))) (lj++v) (Trm.bndL (ts.drop (ts.length-1))) (Trm.addV sc v) wx)∧Hid (q2=false→ChkX wx cb bb sb nc nk fr))
    case first=>as_aux_lemma=>
     rename_i J KK hRJ hMK
     obtain ⟨SLV,hSLV⟩:∃SLV,SLV=slv ot lt ct:=⟨_,rfl⟩
     have HSLV:=Lib.hid hSLV
     have HSE0:=Lib.hid (show ∀W6,Below w9.heap.size w9 W6→_ from fun W6 hb6=>search_any (ts.drop (ts.length-1)) (fun x hx=>HIH.out x (List.mem_of_mem_drop hx)) SLV B cb bb sb nc nk (size+1+Trm.allL (ts.take (ts.length-1))) fr (lj++v) (Trm.addV sc v) deep W.heap.size op n _ _ W6 (by rw[hSLV,←HLT.out];exact slv_terms (TrmS.kept HTT.out ((HT9.out.next (Turned.of_below hb6)).below HSB.out hB))) HSB.out HSh.out (by have:=HT9.out.size;have:=hb6.size;omega) (HC9.out.keep hb6) HSC2.out (by omega) (by have:=HAL.out;omega) (by omega) (by have:=HAL.out;omega) (HX9.out.turned (Turned.of_below (S:=fun _=>False) hb6) (fun _ h=>h.elim)))
     rw[HQ2.out] at HSE0
     clear hSLV
     cases q2 with
     | false=>
      refine wp_region_mid_class (Below w9.heap.size w9) 5 (by kernel_rfl) (by kernel_rfl) HDW.out ?_
      intro T0 _ WW HWW HWW2
      have x3:∀t,(WW t).cell? _=_:=fun t=>((HWW t).cell (p:=⟨W.heap.size+1,3,none⟩) HX9.out.t.lt).trans (HX9.out.t.cell 3 rfl)
      have HWH:=Lib.hid HWW
      clear HWW HWW2
      simp only[List.take_succ_cons,List.take_zero,List.drop_succ_cons,List.drop_zero]
      go_big_quiet_step (fail)
      go_big_quiet_step (fail)
      go_big_quiet_step (fail)
      refine BigFrame.wpQuiet_want (by kernel_rfl) (fun K hK=>?_)
      refine ⟨SLV,fun w _=>quietAt_of ?_,?_⟩
      ·(
        rw[HSLV.out]
        cases ot with
        | none=>
         obtain ⟨rfl,rfl⟩:=slv_none HTS.out
         go_simp
         rfl
        | some a=>
         have hcc:=(SlC.lens HTS.out).2.1
         by_cases hl0:lt=0
         ·subst hl0
          by_cases hc0:ct=0
          ·subst hc0
           go_simp
           simp[slv]
          ·go_simp
           simp[slv,hc0,Addr.add_zero']
         ·obtain ⟨L,rfl⟩:∃L,lt=L+1:=⟨lt-1,by omega⟩
          have hLL:(L:Int)≤(L:Int)+1:=by omega
          have hcl:¬ct=L:=by omega
          go_simp
          simp[slv,hcl]
          try rfl)
      refine hK _ ?_
      clear hK K
      simp only[Act.put,List.setIfInBounds_toArray,List.set_cons_succ,List.set_cons_zero]
      go_big_quiet_step (fail)
      refine wpQuiet_nil ?_
      intro t'
      obtain ⟨W6,hW6⟩:∃W6,WW t'=W6:=⟨_,rfl⟩
      have HB6:=Lib.hid (show Below w9.heap.size w9 W6 from hW6 ▸ HWH.out t')
      rw[hW6]
      clear x3 hW6 HWH
      have HSE:=Lib.hid (HSE0.out W6 HB6.out)
      go_wp2_with fail
      with_reducible refine HSE.out.mono ?_
      rintro e10 w10 ⟨rfl,ht10,hg10,hb10⟩
      have HT10:=Lib.hid ((Turned.of_below (S:=S3 cb bb sb) HB6.out).next ht10)
      have HX10:=Lib.hid (hb10 rfl)
      clear ht10 hg10 hb10 HSE HSE0
      go_wp2_with fail
      refine mid_rest (Below w10.heap.size w10) (Below.refl _ _) ?_
      intro T1 _ W1' HW1 HW2
      have HW1H:=Lib.hid HW1
      skip
      clear HW1 HW2
      repeat (go_big_quiet_step (fail))
      refine wpQuiet_nil ?_
      intro t'
      obtain ⟨W7,hW7⟩:∃W7,W1' t'=W7:=⟨_,rfl⟩
      have HB7:=Lib.hid (show Below w10.heap.size w10 W7 from hW7 ▸ HW1H.out t')
      rw[hW7]
      have HTC:=Lib.hid (HT10.out.next (Turned.of_below HB7.out))
      clear hW7 HW1H
      go_simp
      first | (refine Met.intro ?_) | skip
      first | (refine hRJ _ _ ?_) | (refine hMK _ _ (Met.intro (hRJ _ _ ?_)))
      repeat apply Exists.intro
      refine ⟨?_,rfl⟩
      exact ⟨rfl,HTC,Lib.hid (fun h=>by cases h),Lib.hid (fun _=>HX10.out.keep HB7.out)⟩
     | true=>
      have fop:(op != 9)=true:=by simpa using hop
      refine wp_region_mid_class (Below w9.heap.size w9) 5 (by kernel_rfl) (by kernel_rfl) HDW.out ?_
      intro T0 _ WW HWW HWW2
      have x3:∀t,(WW t).cell? _=_:=fun t=>((HWW t).cell (p:=⟨W.heap.size+1,3,none⟩) HX9.out.t.lt).trans (HX9.out.t.cell 3 rfl)
      have HWH:=Lib.hid HWW
      clear HWW HWW2
      simp only[List.take_succ_cons,List.take_zero,List.drop_succ_cons,List.drop_zero]
      go_big_quiet_step (fail)
      go_big_quiet_step (fail)
      go_big_quiet_step (fail)
      refine BigFrame.wpQuiet_want (by kernel_rfl) (fun K hK=>?_)
      refine ⟨SLV,fun w _=>quietAt_of ?_,?_⟩
      ·(
        rw[HSLV.out]
        cases ot with
        | none=>
         obtain ⟨rfl,rfl⟩:=slv_none HTS.out
         go_simp
         rfl
        | some a=>
         have hcc:=(SlC.lens HTS.out).2.1
         by_cases hl0:lt=0
         ·subst hl0
          by_cases hc0:ct=0
          ·subst hc0
           go_simp
           simp[slv]
          ·go_simp
           simp[slv,hc0,Addr.add_zero']
         ·obtain ⟨L,rfl⟩:∃L,lt=L+1:=⟨lt-1,by omega⟩
          have hLL:(L:Int)≤(L:Int)+1:=by omega
          have hcl:¬ct=L:=by omega
          go_simp
          simp[slv,hcl]
          try rfl)
      refine hK _ ?_
      clear hK K
      simp only[Act.put,List.setIfInBounds_toArray,List.set_cons_succ,List.set_cons_zero]
      go_big_quiet_step (fail)
      refine wpQuiet_nil ?_
      intro t'
      obtain ⟨W6,hW6⟩:∃W6,WW t'=W6:=⟨_,rfl⟩
      have HB6:=Lib.hid (show Below w9.heap.size w9 W6 from hW6 ▸ HWH.out t')
      rw[hW6]
      clear x3 hW6 HWH
      have HSE:=Lib.hid (HSE0.out W6 HB6.out)
      go_wp2_with fail
      with_reducible refine HSE.out.mono ?_
      rintro e10 w10 ⟨rfl,ht10,hg10,hb10⟩
      have HT10:=Lib.hid ((Turned.of_below (S:=S3 cb bb sb) HB6.out).next ht10)
      have HG10:=Lib.hid (hg10 rfl)
      have HXN:=Lib.hid (HX9.out.turned HT10.out HSh.out)
      clear ht10 hg10 hb10 HSE HSE0
      go_wp2_with fail
      refine mid_rest (Below w10.heap.size w10) (Below.refl _ _) ?_
      intro T1 _ W1' HW1 HW2
      have HW1H:=Lib.hid HW1
      have y0:∀t,(W1' t).cell? _=_:=fun t=>((HW1 t).cell (p:=⟨W.heap.size+1,0,none⟩) HXN.out.t.lt).trans (HXN.out.t.cell 0 rfl)
      clear HW1 HW2
      repeat (go_big_quiet_step (fail))
      refine wpQuiet_nil ?_
      intro t'
      obtain ⟨W7,hW7⟩:∃W7,W1' t'=W7:=⟨_,rfl⟩
      have HB7:=Lib.hid (show Below w10.heap.size w10 W7 from hW7 ▸ HW1H.out t')
      rw[hW7]
      have HTC:=Lib.hid (HT10.out.next (Turned.of_below HB7.out))
      clear hW7 HW1H
      go_simp
      first | (refine Met.intro ?_) | skip
      first | (refine hRJ _ _ ?_) | (refine hMK _ _ (Met.intro (hRJ _ _ ?_)))
      repeat apply Exists.intro
      refine ⟨?_,rfl⟩
      exact ⟨rfl,HTC,Lib.hid (fun _=>GoodR.keep HG10.out HB7.out),Lib.hid (fun h=>by cases h)⟩
    case rest=>
     obtain ⟨rfl,hTC,hGC,hXC⟩:=hcut
     have HTN:=Lib.hid (HT9.out.next hTC.out)
     have HXN:=Lib.hid (HX9.out.turned hTC.out HSh.out)
     cases q2 with
     | false=>
      obtain ⟨⟨sz,hb1⟩,⟨m,g,hb2⟩,⟨m2,g2,hb3⟩,hne⟩:=hXC.out rfl
      obtain rfl:r=false:=by
       rw[←HR.out,plainR,←okL_perm ((HP.out).append_right v),HQ2.out]
       simp
      go_wp2_with fail
      refine leaves_cons (f:=64) (args:=#[.pointer (some ⟨W.heap.size+1,0,none⟩),.pointer (some ⟨W.heap.size+1+1,0,none⟩)]) (by simp) (by simp[go_sem]) ?_
      refine (right1_deferred op n v ov _ lv cv _ ct B (W.heap.size+1) (W.heap.size+1+1) sb m2 g2 wc (HVV.out.kept (HTN.out.below HSB.out hB) fun _ _ _ h=>h) (by have:=HTN.out.size;omega) (HSB.out sb (.inr (.inr rfl))) HXN.out.t HXN.out.s hb3).mono ?_
      rintro e11 u11 w11 ⟨rfl,rfl,hm11,ht11⟩
      exact ⟨_,results_tmp rfl _ _ _,rfl,HTN.out.next (ht11.wider fun b _ hb=>.inr (.inr hb)),fun h=>(by simp at h),fun _=>⟨⟨sz,ht11.box hb1 (fun e=>map_box_ne hb3 hb1 e)⟩,⟨m,g,hb2.same (ht11.block _ hb2.lt (fun e=>hne e))⟩,⟨_,_,hm11⟩,hne⟩⟩
     | true=>
      obtain ⟨l',hp',hcs⟩:=hGC.out rfl
      obtain rfl:r=true:=by
       rw[←HR.out,plainR,←okL_perm ((HP.out).append_right v),HQ2.out,HOK3.out,←Trm.newB_perm ((HP.out).append_right v),HQ.out]
       rfl
      go_wp2_with fail
      refine leaves_cons (f:=64) (args:=#[.pointer (some ⟨W.heap.size+1,0,none⟩),.pointer (some ⟨W.heap.size+1+1,0,none⟩)]) (by simp) (by simp[go_sem]) ?_
      refine (right1_deferred op n v ov _ lv cv _ ct B (W.heap.size+1) (W.heap.size+1+1) sb l'.length (Trm.addV sc v) wc (HVV.out.kept (HTN.out.below HSB.out hB) fun _ _ _ h=>h) (by have:=HTN.out.size;omega) (HSB.out sb (.inr (.inr rfl))) HXN.out.t HXN.out.s hcs.scope).mono ?_
      rintro e11 u11 w11 ⟨rfl,rfl,hm11,ht11⟩
      refine ⟨_,results_tmp rfl _ _ _,rfl,HTN.out.next (ht11.wider fun b _ hb=>.inr (.inr hb)),fun _=>⟨l',?_,?_⟩,fun h=>(by simp at h)⟩
      ·refine hp'.trans ?_
       have h1:=((HP.out).append_right v).append_right (Trm.bndL (ts.drop (ts.length-1)))
       simpa only[List.append_assoc] using h1
      ·have h1:=right_close hcs hm11 ht11 HDJ.out
       rw[HAL.out] at h1
       exact h1
end
section
open Go Go.RowKit
def fixR (nc nk:Int) (fr:Bool) (sc:Int→Bool) (l v:List Int) (ts:List Trm):Bool:=Trm.newB (fun _=>false) (l++v)&&(okL nc nk fr (Trm.addV sc v) (l++v) ts&&(ts.take (ts.length-1)).all fun x=>x.op==4)
theorem cright_fix (op n:Int) (v:List Int) (ts:List Trm) (ov ot:Option Addr) (lv cv lt ct:Nat) (B cb bb sb:Nat) (nc nk size:Int) (fr:Bool) (l:List Int) (sc:Int→Bool) (deep:Int) (W:World) (hc:ChkS W cb bb sb nc nk fr size l sc)
  (hvv:SlC W B 1 IntR v (.slice ov lv cv)) (htt:TrmS W B ts (.slice ot lt ct)) (hS:∀b,S3 cb bb sb b→B≤b) (hB:B≤W.heap.size) (hsc:∀v,sc v=true→v∈l) (ih:∀x∈ts,RightC x) (hlt:lt=ts.length) (hct:lt≤1000000)
  (h0:0≤size) (h1:size+1+Trm.allL ts≤20000) (h2:0≤deep) (h3:deep+1+Trm.allL ts≤401) (f t le:Int) (any binds:Bool) (f1:f≤2) (f2:2≤t) (hop:op=9) (hgr:(op==7 || op==9)=true) (hle:ts.length=v.length+1)
  (HSH:∀W,Calls Tryz.prog 61 #[.int .i64 op] W fun e w'=>e=.returned (.tuple #[.agg #[.int .i64 f,.int .i64 t,.int .i64 le,.bool any,.bool binds],.bool true])∧Below W.heap.size W w')
  (HFT:∀W,Calls Tryz.prog 62 #[.agg #[.int .i64 f,.int .i64 t,.int .i64 le,.bool any,.bool binds],.agg #[.int .i64 op,.int .i64 n,.slice ov lv cv,.slice ot lt ct]] W fun e w'=>e=.returned (.bool true)∧Below W.heap.size W w')
  (HNU:∀W,ChkS W cb bb sb nc nk fr (size+1) l sc→Calls Tryz.prog 63 #[.pointer (some ⟨cb,0,none⟩),.agg #[.int .i64 op,.int .i64 n,.slice ov lv cv,.slice ot lt ct],.map (some sb)] W fun e w'=>e=.returned (.bool true)∧Below W.heap.size W w')
  (r:Bool) (hr:fixR nc nk fr sc l v ts=r) :
  Calls Tryz.prog 34 #[.pointer (some ⟨cb,0,none⟩),.agg #[.int .i64 op,.int .i64 n,.slice ov lv cv,.slice ot lt ct],.map (some sb),.int .i64 deep] W (ChkPost cb bb sb nc nk fr r (GoodR cb bb sb nc nk fr (size+1+Trm.allL ts) l (v++Trm.bndL ts) sc) W):=by
 have hmf:∀(fn:Fn) (first cap:Array Value) (w:World),(Instr.makeFunc fn first cap).run Tryz.prog w=.ok (.func fn first cap) w:=fun _ _ _ _=>rfl
 obtain ⟨W1,hW1⟩:∃W1,((((W.alloc (.cells #[.pointer (some ⟨cb,0,none⟩)] 62)).alloc (.cells #[.int .i64 op,.int .i64 n,.slice ov lv cv,.slice ot lt ct] 26)).alloc (.cells #[.map (some sb)] 63)).alloc (.cells #[.int .i64 deep] 3)).setCell ⟨cb,4,none⟩ (.int .i64 (size+1))=W1:=⟨_,rfl⟩
 have hbelow:=below_four W (.cells #[.pointer (some ⟨cb,0,none⟩)] 62) (.cells #[.int .i64 op,.int .i64 n,.slice ov lv cv,.slice ot lt ct] 26) (.cells #[.map (some sb)] 63) (.cells #[.int .i64 deep] 3)
 have HW:=Lib.hid hW1
 have HT1:=Lib.hid (show Turned (S3 cb bb sb) W W1 from by rw[←hW1];exact (Turned.of_below hbelow).next (Turned.set _ _ _ (.inl rfl)))
 have HC1:=Lib.hid (show ChkS W1 cb bb sb nc nk fr (size+1) l sc from by rw[←hW1];exact (hc.keep hbelow).sized _)
 have HX1:=Lib.hid (show RBox W1 W.heap.size cb sb op n (.slice ov lv cv) (.slice ot lt ct) deep from by
  rw[←hW1]
  exact (RBox.new W cb sb op n (.slice ov lv cv) (.slice ot lt ct) deep).turned (Turned.set (S:=fun b=>b=cb) _ _ _ rfl) (fun b hb=>by rw[hb];exact hc.box.lt))
 have c4:=(hc.box.keep hbelow).cell 4 rfl
 have cz:=(hc.box.keep hbelow).free 4
 have cl:=hc.box.lt
 have HC:=Lib.hid hc
 have HSH:=Lib.hid HSH
 have HFT:=Lib.hid HFT
 have HNU:=Lib.hid HNU
 have HVV:=Lib.hid hvv
 have HTT:=Lib.hid htt
 have HIH:=Lib.hid ih
 have HSB:=Lib.hid hS
 have HSC:=Lib.hid hsc
 have HR:=Lib.hid hr
 have HLE:=Lib.hid hle
 clear hle
 have HLT:=Lib.hid hlt
 have HOP:=Lib.hid hop
 clear hW1 hbelow hc hvv htt ih hS hsc hr hlt hop
 go_enter_defers Tryz.func34,Tryz.ntmps34
 go_upto_region 2 with fail
 rw[HW.out]
 have t0:=HX1.out.t.cell 0 rfl
 have tl:=HX1.out.t.lt
 clear c4 cz cl
 go_wp2_with fail
 refine (HSH.out _).mono ?_
 rintro e w1 ⟨rfl,hb1⟩
 have HB1:=Lib.hid hb1
 clear hb1 HSH t0 tl
 go_upto_region 3 with fail
 obtain ⟨W3,hW3⟩:∃W3,w1.alloc (.cells #[.int .i64 f,.int .i64 t,.int .i64 le,.bool any,.bool binds] 87)=W3:=⟨_,rfl⟩
 have HB3:=Lib.hid (show Below W1.heap.size W1 W3 from by rw[←hW3];exact Below.next HB1.out (Below.one w1 _))
 have B9:=Lib.hid (show BoxL W3 w1.heap.size 87 [.int .i64 f,.int .i64 t,.int .i64 le,.bool any,.bool binds] from by rw[←hW3];exact BoxL.new rfl _ _)
 rw[hW3]
 clear hW3
 have HX3:=Lib.hid (HX1.out.turned (Turned.of_below (S:=fun _=>False) HB3.out) (fun _ h=>h.elim))
 have HC3:=Lib.hid (HC1.out.keep HB3.out)
 have HD:=Lib.hid ((Below.refl W3.heap.size W3).drew)
 have g0:decide (400<deep)=false:=decide_eq_false (by omega)
 have g1:decide (20000<size+1)=false:=decide_eq_false (by omega)
 have g2:decide (2<f)=false:=decide_eq_false (by omega)
 have g3:decide (t<2)=false:=decide_eq_false (by omega)
 have HF:=HFT
 have HN:=HNU
 refine wp_region_quiet_all (Below W3.heap.size W3) (by kernel_rfl) (by kernel_rfl) HD.out ?_
 intro T0 _ WW HWW HWW2
 have x0:∀t,(WW t).cell? _=_:=fun t=>((HWW t).cell (p:=⟨W.heap.size,0,none⟩) HX3.out.c.lt).trans (HX3.out.c.cell 0 rfl)
 have x1:∀t,(WW t).cell? _=_:=fun t=>((HWW t).cell (p:=⟨W.heap.size+1,0,none⟩) HX3.out.t.lt).trans (HX3.out.t.cell 0 rfl)
 have x2:∀t,(WW t).cell? _=_:=fun t=>((HWW t).cell (p:=⟨W.heap.size+1,1,none⟩) HX3.out.t.lt).trans (HX3.out.t.cell 1 rfl)
 have x3:∀t,(WW t).cell? _=_:=fun t=>((HWW t).cell (p:=⟨W.heap.size+1,2,none⟩) HX3.out.t.lt).trans (HX3.out.t.cell 2 rfl)
 have x4:∀t,(WW t).cell? _=_:=fun t=>((HWW t).cell (p:=⟨W.heap.size+1,3,none⟩) HX3.out.t.lt).trans (HX3.out.t.cell 3 rfl)
 have x5:∀t,(WW t).cell? _=_:=fun t=>((HWW t).cell (p:=⟨W.heap.size+1+1,0,none⟩) HX3.out.s.lt).trans (HX3.out.s.cell 0 rfl)
 have x6:∀t,(WW t).cell? _=_:=fun t=>((HWW t).cell (p:=⟨W.heap.size+1+1+1,0,none⟩) HX3.out.d.lt).trans (HX3.out.d.cell 0 rfl)
 have y0:∀t,(WW t).cell? _=_:=fun t=>((HWW t).cell (p:=⟨cb,0,none⟩) HC3.out.box.lt).trans (HC3.out.box.cell 0 rfl)
 have y4:∀t,(WW t).cell? _=_:=fun t=>((HWW t).cell (p:=⟨cb,4,none⟩) HC3.out.box.lt).trans (HC3.out.box.cell 4 rfl)
 have z0:∀t,(WW t).cell? _=_:=fun t=>((HWW t).cell (p:=⟨w1.heap.size,0,none⟩) B9.out.lt).trans (B9.out.cell 0 rfl)
 have z1:∀t,(WW t).cell? _=_:=fun t=>((HWW t).cell (p:=⟨w1.heap.size,1,none⟩) B9.out.lt).trans (B9.out.cell 1 rfl)
 have z2:∀t,(WW t).cell? _=_:=fun t=>((HWW t).cell (p:=⟨w1.heap.size,2,none⟩) B9.out.lt).trans (B9.out.cell 2 rfl)
 have z3:∀t,(WW t).cell? _=_:=fun t=>((HWW t).cell (p:=⟨w1.heap.size,3,none⟩) B9.out.lt).trans (B9.out.cell 3 rfl)
 have z4:∀t,(WW t).cell? _=_:=fun t=>((HWW t).cell (p:=⟨w1.heap.size,4,none⟩) B9.out.lt).trans (B9.out.cell 4 rfl)
 have HWH:=Lib.hid HWW
 have HW2:=Lib.hid HWW2
 clear HWW HWW2
 have HC0:Hid (∀t',Calls Tryz.prog 62 #[.agg #[.int .i64 f,.int .i64 t,.int .i64 le,.bool any,.bool binds],.agg #[.int .i64 op,.int .i64 n,.slice ov lv cv,.slice ot lt ct]] (WW t') fun e w'=>e=.returned (.bool true)∧∃t'',w'=WW t''):=Lib.hid (fun t'=>calls_class HW2.out ((HF.out (WW t')).mono fun e w' h=>⟨h.1,Below.next (HWH.out t') h.2⟩))
 have HC1:Hid (∀t',Calls Tryz.prog 63 #[.pointer (some ⟨cb,0,none⟩),.agg #[.int .i64 op,.int .i64 n,.slice ov lv cv,.slice ot lt ct],.map (some sb)] (WW t') fun e w'=>e=.returned (.bool true)∧∃t'',w'=WW t''):=Lib.hid (fun t'=>calls_class HW2.out ((HN.out (WW t') (HC3.out.keep (HWH.out t'))).mono fun e w' h=>⟨h.1,Below.next (HWH.out t') h.2⟩))
 repeat (go_big_quiet_step (first | (go_at_call 62;exact HC0.out _) | (go_at_call 63;exact HC1.out _)))
 refine wpQuiet_nil ?_
 intro t'
 obtain ⟨W4,hW4⟩:∃W4,WW t'=W4:=⟨_,rfl⟩
 have HB4:=Lib.hid (show Below W3.heap.size W3 W4 from hW4 ▸ HWH.out t')
 rw[hW4]
 clear x0 x1 x2 x3 x4 x5 x6 y0 y4 z0 z1 z2 z3 z4 HC0 HC1 hW4 HWH HW2 B9 HD
 have HX4:=Lib.hid (HX3.out.turned (Turned.of_below (S:=fun _=>False) HB4.out) (fun _ h=>h.elim))
 have HC4:=Lib.hid (HC3.out.keep HB4.out)
 have HT4:=Lib.hid (HT1.out.next (Turned.of_below (Below.next HB3.out HB4.out)))
 have HSh:=Lib.hid (show ∀b,S3 cb bb sb b→b<W.heap.size from fun b hb=>by
  rcases hb with rfl | rfl | rfl
  ·exact HC.out.box.lt
  ·exact HC.out.bound.lt
  ·exact HC.out.scope.lt)
 clear HX3 HC3 HB3 HF HN HFT HNU HT1 HC1 HX1 HW HB1
 have x0:=HX4.out.t.cell 0 rfl
 have x1:=HX4.out.t.cell 1 rfl
 have x2:=HX4.out.t.cell 2 rfl
 have x3:=HX4.out.t.cell 3 rfl
 have xl:=HX4.out.t.lt
 go_wp2_with fail
 refine (group_any op n _ _ ov ot lv cv lt ct rfl rfl W4).mono ?_
 rintro e w5 ⟨rfl,hb5⟩
 rw[hgr]
 have HT5:=Lib.hid (HT4.out.next (Turned.of_below (S:=S3 cb bb sb) hb5))
 have HX5:=Lib.hid (HX4.out.turned (Turned.of_below (S:=fun _=>False) hb5) (fun _ h=>h.elim))
 have HC5:=Lib.hid (HC4.out.keep hb5)
 clear x0 x1 x2 x3 xl hb5 HX4 HC4 HT4 HB4
 have x1:=HX5.out.t.cell 2 rfl
 have xl:=HX5.out.t.lt
 have x2:=HX5.out.c.cell 0 rfl
 have xl2:=HX5.out.c.lt
 have x3:=HX5.out.s.cell 0 rfl
 have xl3:=HX5.out.s.lt
 have HBI:=Lib.hid (bind_any cb bb sb nc nk fr _ l v sc B w5 ov lv cv (HVV.out.kept (HT5.out.below HSB.out hB) fun _ _ _ h=>h) HSB.out (by have:=HT5.out.size;omega) HC5.out)
 obtain ⟨q,hq⟩:∃q,Trm.newB (fun _=>false) (l++v)=q:=⟨_,rfl⟩
 rw[hq] at HBI
 have HQ:=Lib.hid hq
 clear hq
 go_wp2_with fail
 with_reducible refine HBI.out.mono ?_
 rintro e8 w8 ⟨rfl,ht8,hg8,hb8⟩
 have HT8:=Lib.hid (HT5.out.next ht8)
 have HG8:=Lib.hid hg8
 have HB8:=Lib.hid hb8
 have HX8:=Lib.hid (HX5.out.turned ht8 HSh.out)
 clear ht8 hg8 hb8 HBI x1 xl x2 xl2 x3 xl3
 cases q with
 | false=>
  obtain ⟨⟨sz,hb1⟩,⟨m,g,hb2⟩,⟨m2,g2,hb3⟩,hne⟩:=HB8.out rfl
  obtain rfl:r=false:=by rw[←HR.out,fixR,HQ.out];rfl
  go_wp2_with fail
  refine leaves_cons (f:=64) (args:=#[.pointer (some ⟨W.heap.size+1,0,none⟩),.pointer (some ⟨W.heap.size+1+1,0,none⟩)]) (by simp) (by simp[go_sem]) ?_
  refine (right1_deferred op n v ov ot lv cv lt ct B (W.heap.size+1) (W.heap.size+1+1) sb m2 g2 w8 (HVV.out.kept (HT8.out.below HSB.out hB) fun _ _ _ h=>h) (by have:=HT8.out.size;omega) (HSB.out sb (.inr (.inr rfl))) HX8.out.t HX8.out.s hb3).mono ?_
  rintro e9 u9 w9 ⟨rfl,rfl,hm9,ht9⟩
  refine ⟨_,results_tmp rfl _ _ _,rfl,HT8.out.next (ht9.wider fun b _ hb=>.inr (.inr hb)),fun h=>(by simp at h),fun _=>⟨⟨sz,ht9.box hb1 (fun e=>map_box_ne hb3 hb1 e)⟩,⟨m,g,hb2.same (ht9.block _ hb2.lt (fun e=>hne e))⟩,⟨_,_,hm9⟩,hne⟩⟩
 | true=>
  have hg8:=HG8.out rfl
  have HC8:=Lib.hid hg8
  clear hg8
  have x0:=HX8.out.t.cell 0 rfl
  have x1:=HX8.out.t.cell 1 rfl
  have x2:=HX8.out.t.cell 2 rfl
  have x3:=HX8.out.t.cell 3 rfl
  have xl:=HX8.out.t.lt
  go_wp2_with fail
  with_reducible refine (group_any op n _ _ ov ot lv cv lt ct rfl rfl w8).mono ?_
  rintro e9 w9 ⟨rfl,hb9⟩
  rw[hgr]
  have HT9:=Lib.hid (HT8.out.next (Turned.of_below (S:=S3 cb bb sb) hb9))
  have HX9:=Lib.hid (HX8.out.turned (Turned.of_below (S:=fun _=>False) hb9) (fun _ h=>h.elim))
  have HC9:=Lib.hid (HC8.out.keep hb9)
  clear x0 x1 x2 x3 xl hb9 HX8 HC8
  have HDW:=Lib.hid (Below.drew (Below.refl w9.heap.size w9))
  have HSC2:=Lib.hid (show ∀x,Trm.addV sc v x=true→x∈l++v from fun x hx=>by
   simp only[Trm.addV,Bool.or_eq_true,List.contains_eq_mem,decide_eq_true_eq] at hx
   rcases hx with hx | hx
   ·exact List.mem_append_left _ (HSC.out x hx)
   ·exact List.mem_append_right _ hx)
  have HDJ:=Lib.hid (show ∀x,sc x=true→x∉v from fun x hx hv=>(List.nodup_append.1 ((Trm.newB_iff _ _).1 HQ.out).2).2.2 x (HSC.out x hx) x hv rfl)
  have HTS:=Lib.hid (TrmS.kept HTT.out ((HT9.out.next (Turned.of_below HDW.out)).below HSB.out hB))
  obtain ⟨L,rfl⟩:∃L,lt=L+1:=⟨lt-1,by have:=HLE.out;have:=HLT.out;omega⟩
  have HL1:=Lib.hid (show ts.length-1=L from by rw[←HLT.out];rfl)
  obtain ⟨xq,hxq⟩:∃x,ts[L]?=some x:=⟨_,List.getElem?_eq_getElem (by have:=HLT.out;omega)⟩
  obtain ⟨tb,toff,d0,d1,d2,d3,rfl,_⟩:=TrmS.at0 HTS.out hxq
  have hct1:=(SlC.lens HTS.out).2.1
  clear hxq
  go_upto_region 18 with fail
  have HSE:=Lib.hid (show ∀W6,Below w9.heap.size w9 W6→_ from fun W6 hb6=>search_any ts HIH.out (.slice (some ⟨tb,toff,none⟩) (L+1) ct) B cb bb sb nc nk (size+1) fr (l++v) (Trm.addV sc v) deep W.heap.size op n _ _ W6 (TrmS.kept HTT.out ((HT9.out.next (Turned.of_below hb6)).below HSB.out hB)) HSB.out HSh.out (by have:=HT9.out.size;have:=hb6.size;omega) (HC9.out.keep hb6) HSC2.out (by omega) (by omega) (by omega) (by omega) (HX9.out.turned (Turned.of_below (S:=fun _=>False) hb6) (fun _ h=>h.elim)))
  obtain ⟨q2,hq2⟩:∃q2,okL nc nk fr (Trm.addV sc v) (l++v) ts=q2:=⟨_,rfl⟩
  rw[hq2] at HSE
  have HQ2:=Lib.hid hq2
  clear hq2
  cases q2 with
  | false=>
   refine wp_region_mid_class (Below w9.heap.size w9) 5 (by kernel_rfl) (by kernel_rfl) HDW.out ?_
   intro T0 _ WW HWW HWW2
   have x3:∀t,(WW t).cell? _=_:=fun t=>((HWW t).cell (p:=⟨W.heap.size+1,3,none⟩) HX9.out.t.lt).trans (HX9.out.t.cell 3 rfl)
   have HWH:=Lib.hid HWW
   clear HWW HWW2
   simp only[List.take_succ_cons,List.take_zero,List.drop_succ_cons,List.drop_zero]
   repeat (go_big_quiet_step (fail))
   refine wpQuiet_nil ?_
   intro t'
   obtain ⟨W6,hW6⟩:∃W6,WW t'=W6:=⟨_,rfl⟩
   have HB6:=Lib.hid (show Below w9.heap.size w9 W6 from hW6 ▸ HWH.out t')
   rw[hW6]
   clear x3 hW6 HWH
   have HSE1:=Lib.hid (HSE.out W6 HB6.out)
   go_wp2_with fail
   with_reducible refine HSE1.out.mono ?_
   rintro e10 w10 ⟨rfl,ht10,hg10,hb10⟩
   have HT10:=Lib.hid ((Turned.of_below (S:=S3 cb bb sb) HB6.out).next ht10)
   have HB10:=Lib.hid (hb10 rfl)
   clear ht10 hg10 hb10 HSE1
   go_wp2_with fail
   refine mid_rest (Below w10.heap.size w10) (Below.refl _ _) ?_
   intro T1 _ W1 HW1 HW2
   repeat (go_big_quiet_step (fail))
   refine wpQuiet_nil ?_
   intro t'
   obtain ⟨W7,hW7⟩:∃W7,W1 t'=W7:=⟨_,rfl⟩
   have HB7:=Lib.hid (show Below w10.heap.size w10 W7 from hW7 ▸ HW1 t')
   rw[hW7]
   have HTN:=Lib.hid ((HT9.out.next HT10.out).next (Turned.of_below HB7.out))
   have HXN:=Lib.hid (HX9.out.turned (HT10.out.next (Turned.of_below HB7.out)) HSh.out)
   obtain ⟨⟨sz,hb1⟩,⟨m,g,hb2⟩,⟨m2,g2,hb3⟩,hne⟩:=HB10.out.keep HB7.out
   obtain rfl:r=false:=by
    rw[←HR.out,fixR,HQ2.out]
    simp
   clear hW7 HW1 HW2
   go_wp2_with fail
   refine leaves_cons (f:=64) (args:=#[.pointer (some ⟨W.heap.size+1,0,none⟩),.pointer (some ⟨W.heap.size+1+1,0,none⟩)]) (by simp) (by simp[go_sem]) ?_
   refine (right1_deferred op n v ov _ lv cv _ ct B (W.heap.size+1) (W.heap.size+1+1) sb m2 g2 W7 (HVV.out.kept (HTN.out.below HSB.out hB) fun _ _ _ h=>h) (by have:=HTN.out.size;omega) (HSB.out sb (.inr (.inr rfl))) HXN.out.t HXN.out.s hb3).mono ?_
   rintro e11 u11 w11 ⟨rfl,rfl,hm11,ht11⟩
   exact ⟨_,results_tmp rfl _ _ _,rfl,HTN.out.next (ht11.wider fun b _ hb=>.inr (.inr hb)),fun h=>(by simp at h),fun _=>⟨⟨sz,ht11.box hb1 (fun e=>map_box_ne hb3 hb1 e)⟩,⟨m,g,hb2.same (ht11.block _ hb2.lt (fun e=>hne e))⟩,⟨_,_,hm11⟩,hne⟩⟩
  | true=>
   obtain rfl:op=9:=HOP.out
   obtain ⟨q3,hq3⟩:∃q3,((ts.take L).all fun x=>x.op==4)=q3:=⟨_,rfl⟩
   have HQ3:=Lib.hid hq3
   clear hq3 hgr HOP
   refine wp_region_mid_class (Below w9.heap.size w9) 5 (by kernel_rfl) (by kernel_rfl) HDW.out ?_
   intro T0 _ WW HWW HWW2
   have x3:∀t,(WW t).cell? _=_:=fun t=>((HWW t).cell (p:=⟨W.heap.size+1,3,none⟩) HX9.out.t.lt).trans (HX9.out.t.cell 3 rfl)
   have HWH:=Lib.hid HWW
   clear HWW HWW2
   simp only[List.take_succ_cons,List.take_zero,List.drop_succ_cons,List.drop_zero]
   repeat (go_big_quiet_step (fail))
   refine wpQuiet_nil ?_
   intro t'
   obtain ⟨W6,hW6⟩:∃W6,WW t'=W6:=⟨_,rfl⟩
   have HB6:=Lib.hid (show Below w9.heap.size w9 W6 from hW6 ▸ HWH.out t')
   rw[hW6]
   clear x3 hW6 HWH
   have HSE1:=Lib.hid (HSE.out W6 HB6.out)
   go_wp2_with fail
   with_reducible refine HSE1.out.mono ?_
   rintro e10 w10 ⟨rfl,ht10,hg10,hb10⟩
   have HT10:=Lib.hid ((Turned.of_below (S:=S3 cb bb sb) HB6.out).next ht10)
   have HXN:=Lib.hid (HX9.out.turned HT10.out HSh.out)
   have HTN:=Lib.hid (HT9.out.next HT10.out)
   obtain ⟨l',hp',hcs⟩:=hg10 rfl
   have HCS:=Lib.hid hcs
   have HPP:=Lib.hid hp'
   clear ht10 hg10 hb10 HSE1 hcs hp'
   go_wp2_with fail
   refine mid_rest (Below w10.heap.size w10) (Below.refl _ _) ?_
   intro T1 _ W1 HW1 HW2
   have y0:∀t,(W1 t).cell? _=_:=fun t=>((HW1 t).cell (p:=⟨W.heap.size+1,0,none⟩) HXN.out.t.lt).trans (HXN.out.t.cell 0 rfl)
   have y3:∀t,(W1 t).cell? _=_:=fun t=>((HW1 t).cell (p:=⟨W.heap.size+1,3,none⟩) HXN.out.t.lt).trans (HXN.out.t.cell 3 rfl)
   have yc:∀t,(W1 t).cell? _=_:=fun t=>((HW1 t).cell (p:=⟨W.heap.size,0,none⟩) HXN.out.c.lt).trans (HXN.out.c.cell 0 rfl)
   have HW1H:=Lib.hid HW1
   have HW2H:=Lib.hid HW2
   have HPR:Hid (∀t,Calls Tryz.prog 68 #[.pointer (some ⟨cb,0,none⟩),.slice (some ⟨tb,toff,none⟩) L ct] (W1 t) fun e w'=>e=.returned (.bool q3)∧∃t',w'=W1 t'):=Lib.hid (fun t=>calls_class HW2H.out ((show Calls Tryz.prog 68 #[.pointer (some ⟨cb,0,none⟩),.slice (some ⟨tb,toff,none⟩) L ct] (W1 t) (fun e w'=>e=.returned (.bool q3)∧Below (W1 t).heap.size (W1 t) w') from by
    have h:=procedures_any (ts.take L) (.slice (some ⟨tb,toff,none⟩) L ct) B cb nc nk _ fr bb (W1 t) (SlC.takes (TrmS.kept HTT.out ((HTN.out.next (Turned.of_below (HW1H.out t))).below HSB.out hB)) (Nat.le_succ L)) (by have:=HTN.out.size;have:=(HW1H.out t).size;omega) (HCS.out.box.keep (HW1H.out t))
    rw[HQ3.out] at h
    exact h).mono fun e w' h=>⟨h.1,Below.next (HW1H.out t) h.2⟩))
   clear HW1 HW2
   repeat (go_big_quiet_step (first | (go_at_call 68;exact HPR.out _)))
   refine wpQuiet_nil ?_
   intro t'
   obtain ⟨W7,hW7⟩:∃W7,W1 t'=W7:=⟨_,rfl⟩
   have HB12:=Lib.hid (show Below w10.heap.size w10 W7 from hW7 ▸ HW1H.out t')
   rw[hW7]
   clear y0 y3 yc hW7 HW1H HW2H HPR
   obtain rfl:r=q3:=by
    rw[←HR.out,fixR,HQ2.out,HQ.out,HL1.out,HQ3.out]
    rfl
   have HTN2:=Lib.hid (HTN.out.next (Turned.of_below HB12.out))
   have HXN2:=Lib.hid (HXN.out.turned (Turned.of_below (S:=fun _=>False) HB12.out) (fun _ h=>h.elim))
   have HCS2:=Lib.hid (HCS.out.keep HB12.out)
   go_wp2_with fail
   refine leaves_cons (f:=64) (args:=#[.pointer (some ⟨W.heap.size+1,0,none⟩),.pointer (some ⟨W.heap.size+1+1,0,none⟩)]) (by simp) (by simp[go_sem]) ?_
   refine (right1_deferred 9 n v ov _ lv cv _ ct B (W.heap.size+1) (W.heap.size+1+1) sb l'.length (Trm.addV sc v) W7 (HVV.out.kept (HTN2.out.below HSB.out hB) fun _ _ _ h=>h) (by have:=HTN2.out.size;omega) (HSB.out sb (.inr (.inr rfl))) HXN2.out.t HXN2.out.s HCS2.out.scope).mono ?_
   rintro e11 u11 w11 ⟨rfl,rfl,hm11,ht11⟩
   have hcl:=right_close HCS2.out hm11 ht11 HDJ.out
   refine ⟨_,results_tmp rfl _ _ _,rfl,HTN2.out.next (ht11.wider fun b _ hb=>.inr (.inr hb)),fun _=>⟨l',?_,hcl⟩,fun _=>hcl.bad⟩
   have h1:=HPP.out
   simpa only[List.append_assoc] using h1
end
end Go.Proofs.YtgbibibmpoekiaaGreatDoor
