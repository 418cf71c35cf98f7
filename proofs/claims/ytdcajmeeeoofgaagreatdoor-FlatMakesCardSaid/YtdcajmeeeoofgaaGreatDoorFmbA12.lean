/- .. -/
import Derived.Deep.LoopGhost
import Derived.Deep.RegionWith
import Derived.Test.YtdcajmeeeoofgaaGreatDoorFmbA11
open Go.Proofs.Tryz
set_option maxRecDepth 100000
set_option maxHeartbeats 16000000
namespace Go.Proofs.YtdcajmeeeoofgaaGreatDoor
section
open Go Go.RowKit
def fixR (nc nk:Int) (fr:Bool) (sc:Int→Bool) (l v:List Int) (ts:List Trm):Bool:=Trm.newB (fun _=>false) (l++v)&&(okL nc nk fr (Trm.addV sc v) (l++v) ts&&(ts.take (ts.length-1)).all fun x=>x.op==19)
theorem zfD (op n:Int) (v:List Int) (ts:List Trm) (ov ot:Option Addr) (lv cv lt ct:Nat) (B cb bb sb:Nat) (nc nk size:Int) (fr:Bool) (l:List Int) (sc:Int→Bool) (deep:Int) (W:World) (hc:ChkS W cb bb sb nc nk fr size l sc)
  (hvv:SlC W B 1 IntR v (.slice ov lv cv)) (htt:TrmS W B ts (.slice ot lt ct)) (hS:∀b,S3 cb bb sb b→B≤b) (hB:B≤W.heap.size) (hsc:∀v,sc v=true→v∈l) (ih:∀x∈ts,RightC x) (hlt:lt=ts.length) (hct:lt≤1000000)
  (h0:0≤size) (h1:size+1+Trm.allL ts≤20000) (h2:0≤deep) (h3:deep+1+Trm.allL ts≤401) (f t le:Int) (any binds:Bool) (f1:f≤3) (f2:3≤t) (hop:op=9) (hgr:(op==7 || op==9)=true) (hle:ts.length=v.length+1)
  (HSH:∀W,Calls prog 57 #[.int .i64 op] W fun e w'=>e=.returned (.tuple #[.agg #[.int .i64 f,.int .i64 t,.int .i64 le,.bool any,.bool binds],.bool true])∧Below W.heap.size W w')
  (HFT:∀W,Calls prog 58 #[.agg #[.int .i64 f,.int .i64 t,.int .i64 le,.bool any,.bool binds],.agg #[.int .i64 op,.int .i64 n,.slice ov lv cv,.slice ot lt ct]] W fun e w'=>e=.returned (.bool true)∧Below W.heap.size W w')
  (HNU:∀W,ChkS W cb bb sb nc nk fr (size+1) l sc→Calls prog 59 #[.pointer (some ⟨cb,0,none⟩),.agg #[.int .i64 op,.int .i64 n,.slice ov lv cv,.slice ot lt ct],.map (some sb)] W fun e w'=>e=.returned (.bool true)∧Below W.heap.size W w')
  (r:Bool) (hr:fixR nc nk fr sc l v ts=r) :
  Calls prog 32 #[.pointer (some ⟨cb,0,none⟩),.agg #[.int .i64 op,.int .i64 n,.slice ov lv cv,.slice ot lt ct],.map (some sb),.int .i64 deep] W (ChkPost cb bb sb nc nk fr r (GoodR cb bb sb nc nk fr (size+1+Trm.allL ts) l (v++Trm.bndL ts) sc) W):=by
 have hmf:∀(fn:Fn) (first cap:Array Value) (w:World),(Instr.makeFunc fn first cap).run prog w=.ok (.func fn first cap) w:=fun _ _ _ _=>rfl
 obtain ⟨W1,hW1⟩:∃W1,((((W.alloc (.cells #[.pointer (some ⟨cb,0,none⟩)] 67)).alloc (.cells #[.int .i64 op,.int .i64 n,.slice ov lv cv,.slice ot lt ct] 27)).alloc (.cells #[.map (some sb)] 68)).alloc (.cells #[.int .i64 deep] 3)).setCell ⟨cb,4,none⟩ (.int .i64 (size+1))=W1:=⟨_,rfl⟩
 have hbelow:=zbo W (.cells #[.pointer (some ⟨cb,0,none⟩)] 67) (.cells #[.int .i64 op,.int .i64 n,.slice ov lv cv,.slice ot lt ct] 27) (.cells #[.map (some sb)] 68) (.cells #[.int .i64 deep] 3)
 have HW:=zh hW1
 have HT1:=zh (show Turned (S3 cb bb sb) W W1 from by rw[←hW1];exact (Turned.of_below hbelow).next (Turned.set _ _ _ (.inl rfl)))
 have HC1:=zh (show ChkS W1 cb bb sb nc nk fr (size+1) l sc from by rw[←hW1];exact (hc.keep hbelow).sized _)
 have HX1:=zh (show RBox W1 W.heap.size cb sb op n (.slice ov lv cv) (.slice ot lt ct) deep from by
  rw[←hW1]
  exact (RBox.new W cb sb op n (.slice ov lv cv) (.slice ot lt ct) deep).turned (Turned.set (S:=fun b=>b=cb) _ _ _ rfl) (fun b hb=>by rw[hb];exact hc.box.lt))
 have c4:=(hc.box.keep hbelow).cell 4 rfl
 have cz:=(hc.box.keep hbelow).free 4
 have cl:=hc.box.lt
 have HC:=zh hc
 have HSH:=zh HSH
 have HFT:=zh HFT
 have HNU:=zh HNU
 have HVV:=zh hvv
 have HTT:=zh htt
 have HIH:=zh ih
 have HSB:=zh hS
 have HSC:=zh hsc
 have HR:=zh hr
 have HLE:=zh hle
 clear hle
 have HLT:=zh hlt
 have HOP:=zh hop
 clear hW1 hbelow hc hvv htt ih hS hsc hr hlt hop
 go_enter_defers func32,ntmps32
 go_upto_region 2 with fail
 rw[HW.out]
 have t0:=HX1.out.t.cell 0 rfl
 have tl:=HX1.out.t.lt
 clear c4 cz cl
 go_wp2_with fail
 refine (HSH.out _).mono ?_
 rintro e w1 ⟨rfl,hb1⟩
 have HB1:=zh hb1
 clear hb1 HSH t0 tl
 go_upto_region 3 with fail
 obtain ⟨W3,hW3⟩:∃W3,w1.alloc (.cells #[.int .i64 f,.int .i64 t,.int .i64 le,.bool any,.bool binds] 109)=W3:=⟨_,rfl⟩
 have HB3:=zh (show Below W1.heap.size W1 W3 from by rw[←hW3];exact Below.next HB1.out (Below.one w1 _))
 have B9:=zh (show BoxL W3 w1.heap.size 109 [.int .i64 f,.int .i64 t,.int .i64 le,.bool any,.bool binds] from by rw[←hW3];exact BoxL.new rfl _ _)
 rw[hW3]
 clear hW3
 have HX3:=zh (HX1.out.turned (Turned.of_below (S:=fun _=>False) HB3.out) (fun _ h=>h.elim))
 have HC3:=zh (HC1.out.keep HB3.out)
 have HD:=zh ((Below.refl W3.heap.size W3).drew)
 have g0:decide (400<deep)=false:=decide_eq_false (by omega)
 have g1:decide (20000<size+1)=false:=decide_eq_false (by omega)
 have g2:decide (3<f)=false:=decide_eq_false (by omega)
 have g3:decide (t<3)=false:=decide_eq_false (by omega)
 have HF:=HFT
 have HN:=HNU
 refine zab (Below W3.heap.size W3) (by kernel_rfl) (by kernel_rfl) HD.out ?_
 intro T0 _ WW HWW HWW2
 have x0:∀t,(WW t).cell? _=_:=fun t=>((HWW t).cell (p:=⟨W.heap.size,0,none⟩) HX3.out.c.lt).trans (HX3.out.c.cell 0 rfl)
 have x1:∀t,(WW t).cell? _=_:=fun t=>((HWW t).cell (p:=⟨W.heap.size+1,0,none⟩) HX3.out.t.lt).trans (HX3.out.t.cell 0 rfl)
 have x2:∀t,(WW t).cell? _=_:=fun t=>((HWW t).cell (p:=⟨W.heap.size+1,1,none⟩) HX3.out.t.lt).trans (HX3.out.t.cell 1 rfl)
 have x3:∀t,(WW t).cell? _=_:=fun t=>((HWW t).cell (p:=⟨W.heap.size+1,2,none⟩) HX3.out.t.lt).trans (HX3.out.t.cell 2 rfl)
 have x4:∀t,(WW t).cell? _=_:=fun t=>((HWW t).cell (p:=⟨W.heap.size+1,3,none⟩) HX3.out.t.lt).trans (HX3.out.t.cell 3 rfl)
 have x5:∀t,(WW t).cell? _=_:=fun t=>((HWW t).cell (p:=⟨W.heap.size+1+1,0,none⟩) HX3.out.s.lt).trans (HX3.out.s.cell 0 rfl)
 have x6:∀t,(WW t).cell? _=_:=fun t=>((HWW t).cell (p:=⟨W.heap.size+1+1+1,0,none⟩) HX3.out.d.lt).trans (HX3.out.d.cell 0 rfl)
 have y0:∀t,(WW t).cell? _=_:=fun t=>((HWW t).cell (p:=⟨cb,0,none⟩) HC3.out.box.lt).trans (HC3.out.box.cell 0 rfl)
 have y4:∀t,(WW t).cell? _=_:=fun t=>((HWW t).cell (p:=⟨cb,4,none⟩) HC3.out.box.lt).trans (HC3.out.box.cell 4 rfl)
 have z0:∀t,(WW t).cell? _=_:=fun t=>((HWW t).cell (p:=⟨w1.heap.size,0,none⟩) B9.out.lt).trans (B9.out.cell 0 rfl)
 have z1:∀t,(WW t).cell? _=_:=fun t=>((HWW t).cell (p:=⟨w1.heap.size,1,none⟩) B9.out.lt).trans (B9.out.cell 1 rfl)
 have z2:∀t,(WW t).cell? _=_:=fun t=>((HWW t).cell (p:=⟨w1.heap.size,2,none⟩) B9.out.lt).trans (B9.out.cell 2 rfl)
 have z3:∀t,(WW t).cell? _=_:=fun t=>((HWW t).cell (p:=⟨w1.heap.size,3,none⟩) B9.out.lt).trans (B9.out.cell 3 rfl)
 have z4:∀t,(WW t).cell? _=_:=fun t=>((HWW t).cell (p:=⟨w1.heap.size,4,none⟩) B9.out.lt).trans (B9.out.cell 4 rfl)
 have HWH:=zh HWW
 have HW2:=zh HWW2
 clear HWW HWW2
 have HC0:Hid (∀t',Calls prog 58 #[.agg #[.int .i64 f,.int .i64 t,.int .i64 le,.bool any,.bool binds],.agg #[.int .i64 op,.int .i64 n,.slice ov lv cv,.slice ot lt ct]] (WW t') fun e w'=>e=.returned (.bool true)∧∃t'',w'=WW t''):=zh (fun t'=>zak HW2.out ((HF.out (WW t')).mono fun e w' h=>⟨h.1,Below.next (HWH.out t') h.2⟩))
 have HC1:Hid (∀t',Calls prog 59 #[.pointer (some ⟨cb,0,none⟩),.agg #[.int .i64 op,.int .i64 n,.slice ov lv cv,.slice ot lt ct],.map (some sb)] (WW t') fun e w'=>e=.returned (.bool true)∧∃t'',w'=WW t''):=zh (fun t'=>zak HW2.out ((HN.out (WW t') (HC3.out.keep (HWH.out t'))).mono fun e w' h=>⟨h.1,Below.next (HWH.out t') h.2⟩))
 repeat (go_big_quiet_step (first | (go_at_call 58;exact HC0.out _) | (go_at_call 59;exact HC1.out _)))
 refine wpQuiet_nil ?_
 intro t'
 obtain ⟨W4,hW4⟩:∃W4,WW t'=W4:=⟨_,rfl⟩
 have HB4:=zh (show Below W3.heap.size W3 W4 from hW4 ▸ HWH.out t')
 rw[hW4]
 clear x0 x1 x2 x3 x4 x5 x6 y0 y4 z0 z1 z2 z3 z4 HC0 HC1 hW4 HWH HW2 B9 HD
 have HX4:=zh (HX3.out.turned (Turned.of_below (S:=fun _=>False) HB4.out) (fun _ h=>h.elim))
 have HC4:=zh (HC3.out.keep HB4.out)
 have HT4:=zh (HT1.out.next (Turned.of_below (Below.next HB3.out HB4.out)))
 have HSh:=zh (show ∀b,S3 cb bb sb b→b<W.heap.size from fun b hb=>by
  rcases hb with rfl | rfl | rfl
  ·exact HC.out.box.lt
  ·exact HC.out.bound.lt
  ·exact HC.out.scope.lt)
 clear HX3 HC3 HB3 HF HN HFT HNU HT1 HC1 HX1 HW HB1
 have x0:=HX4.out.t.cell 0 rfl
 have x1:=HX4.out.t.cell 1 rfl
 have x2:=HX4.out.t.cell 2 rfl
 have x3:=HX4.out.t.cell 3 rfl
 have xl:=HX4.out.t.lt
 go_wp2_with fail
 refine (zb2 op n _ _ ov ot lv cv lt ct rfl rfl W4).mono ?_
 rintro e w5 ⟨rfl,hb5⟩
 rw[hgr]
 have HT5:=zh (HT4.out.next (Turned.of_below (S:=S3 cb bb sb) hb5))
 have HX5:=zh (HX4.out.turned (Turned.of_below (S:=fun _=>False) hb5) (fun _ h=>h.elim))
 have HC5:=zh (HC4.out.keep hb5)
 clear x0 x1 x2 x3 xl hb5 HX4 HC4 HT4 HB4
 have x1:=HX5.out.t.cell 2 rfl
 have xl:=HX5.out.t.lt
 have x2:=HX5.out.c.cell 0 rfl
 have xl2:=HX5.out.c.lt
 have x3:=HX5.out.s.cell 0 rfl
 have xl3:=HX5.out.s.lt
 have HBI:=zh (zdB cb bb sb nc nk fr _ l v sc B w5 ov lv cv (HVV.out.kept (HT5.out.below HSB.out hB) fun _ _ _ h=>h) HSB.out (by have:=HT5.out.size;omega) HC5.out)
 obtain ⟨q,hq⟩:∃q,Trm.newB (fun _=>false) (l++v)=q:=⟨_,rfl⟩
 rw[hq] at HBI
 have HQ:=zh hq
 clear hq
 go_wp2_with fail
 with_reducible refine HBI.out.mono ?_
 rintro e8 w8 ⟨rfl,ht8,hg8,hb8⟩
 have HT8:=zh (HT5.out.next ht8)
 have HG8:=zh hg8
 have HB8:=zh hb8
 have HX8:=zh (HX5.out.turned ht8 HSh.out)
 clear ht8 hg8 hb8 HBI x1 xl x2 xl2 x3 xl3
 cases q with
 | false=>
  obtain ⟨⟨sz,hb1⟩,⟨m,g,hb2⟩,⟨m2,g2,hb3⟩,hne⟩:=HB8.out rfl
  obtain rfl:r=false:=by rw[←HR.out,fixR,HQ.out];rfl
  go_wp2_with fail
  refine leaves_cons (f:=61) (args:=#[.pointer (some ⟨W.heap.size+1,0,none⟩),.pointer (some ⟨W.heap.size+1+1,0,none⟩)]) (by simp) (by simp[go_sem]) ?_
  refine (zaH op n v ov ot lv cv lt ct B (W.heap.size+1) (W.heap.size+1+1) sb m2 g2 w8 (HVV.out.kept (HT8.out.below HSB.out hB) fun _ _ _ h=>h) (by have:=HT8.out.size;omega) (HSB.out sb (.inr (.inr rfl))) HX8.out.t HX8.out.s hb3).mono ?_
  rintro e9 u9 w9 ⟨rfl,rfl,hm9,ht9⟩
  refine ⟨_,results_tmp rfl _ _ _,rfl,HT8.out.next (ht9.wider fun b _ hb=>.inr (.inr hb)),fun h=>(by simp at h),fun _=>⟨⟨sz,ht9.box hb1 (fun e=>zaD hb3 hb1 e)⟩,⟨m,g,hb2.same (ht9.block _ hb2.lt (fun e=>hne e))⟩,⟨_,_,hm9⟩,hne⟩⟩
 | true=>
  have hg8:=HG8.out rfl
  have HC8:=zh hg8
  clear hg8
  have x0:=HX8.out.t.cell 0 rfl
  have x1:=HX8.out.t.cell 1 rfl
  have x2:=HX8.out.t.cell 2 rfl
  have x3:=HX8.out.t.cell 3 rfl
  have xl:=HX8.out.t.lt
  go_wp2_with fail
  with_reducible refine (zb2 op n _ _ ov ot lv cv lt ct rfl rfl w8).mono ?_
  rintro e9 w9 ⟨rfl,hb9⟩
  rw[hgr]
  have HT9:=zh (HT8.out.next (Turned.of_below (S:=S3 cb bb sb) hb9))
  have HX9:=zh (HX8.out.turned (Turned.of_below (S:=fun _=>False) hb9) (fun _ h=>h.elim))
  have HC9:=zh (HC8.out.keep hb9)
  clear x0 x1 x2 x3 xl hb9 HX8 HC8
  have HDW:=zh (Below.drew (Below.refl w9.heap.size w9))
  have HSC2:=zh (show ∀x,Trm.addV sc v x=true→x∈l++v from fun x hx=>by
   simp only[Trm.addV,Bool.or_eq_true,List.contains_eq_mem,decide_eq_true_eq] at hx
   rcases hx with hx | hx
   ·exact List.mem_append_left _ (HSC.out x hx)
   ·exact List.mem_append_right _ hx)
  have HDJ:=zh (show ∀x,sc x=true→x∉v from fun x hx hv=>(List.nodup_append.1 ((Trm.newB_iff _ _).1 HQ.out).2).2.2 x (HSC.out x hx) x hv rfl)
  have HTS:=zh (TrmS.kept HTT.out ((HT9.out.next (Turned.of_below HDW.out)).below HSB.out hB))
  obtain ⟨L,rfl⟩:∃L,lt=L+1:=⟨lt-1,by have:=HLE.out;have:=HLT.out;omega⟩
  have HL1:=zh (show ts.length-1=L from by rw[←HLT.out];rfl)
  obtain ⟨xq,hxq⟩:∃x,ts[L]?=some x:=⟨_,List.getElem?_eq_getElem (by have:=HLT.out;omega)⟩
  obtain ⟨tb,toff,d0,d1,d2,d3,rfl,_⟩:=TrmS.at0 HTS.out hxq
  have hct1:=(SlC.lens HTS.out).2.1
  clear hxq
  go_upto_region 18 with fail
  have HSE:=zh (show ∀W6,Below w9.heap.size w9 W6→_ from fun W6 hb6=>zdn ts HIH.out (.slice (some ⟨tb,toff,none⟩) (L+1) ct) B cb bb sb nc nk (size+1) fr (l++v) (Trm.addV sc v) deep W.heap.size op n _ _ W6 (TrmS.kept HTT.out ((HT9.out.next (Turned.of_below hb6)).below HSB.out hB)) HSB.out HSh.out (by have:=HT9.out.size;have:=hb6.size;omega) (HC9.out.keep hb6) HSC2.out (by omega) (by omega) (by omega) (by omega) (HX9.out.turned (Turned.of_below (S:=fun _=>False) hb6) (fun _ h=>h.elim)))
  obtain ⟨q2,hq2⟩:∃q2,okL nc nk fr (Trm.addV sc v) (l++v) ts=q2:=⟨_,rfl⟩
  rw[hq2] at HSE
  have HQ2:=zh hq2
  clear hq2
  cases q2 with
  | false=>
   refine zaK (Below w9.heap.size w9) 5 (by kernel_rfl) (by kernel_rfl) HDW.out ?_
   intro T0 _ WW HWW HWW2
   have x3:∀t,(WW t).cell? _=_:=fun t=>((HWW t).cell (p:=⟨W.heap.size+1,3,none⟩) HX9.out.t.lt).trans (HX9.out.t.cell 3 rfl)
   have HWH:=zh HWW
   clear HWW HWW2
   simp only[List.take_succ_cons,List.take_zero,List.drop_succ_cons,List.drop_zero]
   repeat (go_big_quiet_step (fail))
   refine wpQuiet_nil ?_
   intro t'
   obtain ⟨W6,hW6⟩:∃W6,WW t'=W6:=⟨_,rfl⟩
   have HB6:=zh (show Below w9.heap.size w9 W6 from hW6 ▸ HWH.out t')
   rw[hW6]
   clear x3 hW6 HWH
   have HSE1:=zh (HSE.out W6 HB6.out)
   go_wp2_with fail
   with_reducible refine HSE1.out.mono ?_
   rintro e10 w10 ⟨rfl,ht10,hg10,hb10⟩
   have HT10:=zh ((Turned.of_below (S:=S3 cb bb sb) HB6.out).next ht10)
   have HB10:=zh (hb10 rfl)
   clear ht10 hg10 hb10 HSE1
   go_wp2_with fail
   refine zcu (Below w10.heap.size w10) (Below.refl _ _) ?_
   intro T1 _ W1 HW1 HW2
   repeat (go_big_quiet_step (fail))
   refine wpQuiet_nil ?_
   intro t'
   obtain ⟨W7,hW7⟩:∃W7,W1 t'=W7:=⟨_,rfl⟩
   have HB7:=zh (show Below w10.heap.size w10 W7 from hW7 ▸ HW1 t')
   rw[hW7]
   have HTN:=zh ((HT9.out.next HT10.out).next (Turned.of_below HB7.out))
   have HXN:=zh (HX9.out.turned (HT10.out.next (Turned.of_below HB7.out)) HSh.out)
   obtain ⟨⟨sz,hb1⟩,⟨m,g,hb2⟩,⟨m2,g2,hb3⟩,hne⟩:=HB10.out.keep HB7.out
   obtain rfl:r=false:=by
    rw[←HR.out,fixR,HQ2.out]
    simp
   clear hW7 HW1 HW2
   go_wp2_with fail
   refine leaves_cons (f:=61) (args:=#[.pointer (some ⟨W.heap.size+1,0,none⟩),.pointer (some ⟨W.heap.size+1+1,0,none⟩)]) (by simp) (by simp[go_sem]) ?_
   refine (zaH op n v ov _ lv cv _ ct B (W.heap.size+1) (W.heap.size+1+1) sb m2 g2 W7 (HVV.out.kept (HTN.out.below HSB.out hB) fun _ _ _ h=>h) (by have:=HTN.out.size;omega) (HSB.out sb (.inr (.inr rfl))) HXN.out.t HXN.out.s hb3).mono ?_
   rintro e11 u11 w11 ⟨rfl,rfl,hm11,ht11⟩
   exact ⟨_,results_tmp rfl _ _ _,rfl,HTN.out.next (ht11.wider fun b _ hb=>.inr (.inr hb)),fun h=>(by simp at h),fun _=>⟨⟨sz,ht11.box hb1 (fun e=>zaD hb3 hb1 e)⟩,⟨m,g,hb2.same (ht11.block _ hb2.lt (fun e=>hne e))⟩,⟨_,_,hm11⟩,hne⟩⟩
  | true=>
   obtain rfl:op=9:=HOP.out
   obtain ⟨q3,hq3⟩:∃q3,((ts.take L).all fun x=>x.op==19)=q3:=⟨_,rfl⟩
   have HQ3:=zh hq3
   clear hq3 hgr HOP
   refine zaK (Below w9.heap.size w9) 5 (by kernel_rfl) (by kernel_rfl) HDW.out ?_
   intro T0 _ WW HWW HWW2
   have x3:∀t,(WW t).cell? _=_:=fun t=>((HWW t).cell (p:=⟨W.heap.size+1,3,none⟩) HX9.out.t.lt).trans (HX9.out.t.cell 3 rfl)
   have HWH:=zh HWW
   clear HWW HWW2
   simp only[List.take_succ_cons,List.take_zero,List.drop_succ_cons,List.drop_zero]
   repeat (go_big_quiet_step (fail))
   refine wpQuiet_nil ?_
   intro t'
   obtain ⟨W6,hW6⟩:∃W6,WW t'=W6:=⟨_,rfl⟩
   have HB6:=zh (show Below w9.heap.size w9 W6 from hW6 ▸ HWH.out t')
   rw[hW6]
   clear x3 hW6 HWH
   have HSE1:=zh (HSE.out W6 HB6.out)
   go_wp2_with fail
   with_reducible refine HSE1.out.mono ?_
   rintro e10 w10 ⟨rfl,ht10,hg10,hb10⟩
   have HT10:=zh ((Turned.of_below (S:=S3 cb bb sb) HB6.out).next ht10)
   have HXN:=zh (HX9.out.turned HT10.out HSh.out)
   have HTN:=zh (HT9.out.next HT10.out)
   obtain ⟨l',hp',hcs⟩:=hg10 rfl
   have HCS:=zh hcs
   have HPP:=zh hp'
   clear ht10 hg10 hb10 HSE1 hcs hp'
   go_wp2_with fail
   refine zcu (Below w10.heap.size w10) (Below.refl _ _) ?_
   intro T1 _ W1 HW1 HW2
   have y0:∀t,(W1 t).cell? _=_:=fun t=>((HW1 t).cell (p:=⟨W.heap.size+1,0,none⟩) HXN.out.t.lt).trans (HXN.out.t.cell 0 rfl)
   have y3:∀t,(W1 t).cell? _=_:=fun t=>((HW1 t).cell (p:=⟨W.heap.size+1,3,none⟩) HXN.out.t.lt).trans (HXN.out.t.cell 3 rfl)
   have yc:∀t,(W1 t).cell? _=_:=fun t=>((HW1 t).cell (p:=⟨W.heap.size,0,none⟩) HXN.out.c.lt).trans (HXN.out.c.cell 0 rfl)
   have HW1H:=zh HW1
   have HW2H:=zh HW2
   have HPR:Hid (∀t,Calls prog 64 #[.pointer (some ⟨cb,0,none⟩),.slice (some ⟨tb,toff,none⟩) L ct] (W1 t) fun e w'=>e=.returned (.bool q3)∧∃t',w'=W1 t'):=zh (fun t=>zak HW2H.out ((show Calls prog 64 #[.pointer (some ⟨cb,0,none⟩),.slice (some ⟨tb,toff,none⟩) L ct] (W1 t) (fun e w'=>e=.returned (.bool q3)∧Below (W1 t).heap.size (W1 t) w') from by
    have h:=zc9 (ts.take L) (.slice (some ⟨tb,toff,none⟩) L ct) B cb nc nk _ fr bb (W1 t) (SlC.takes (TrmS.kept HTT.out ((HTN.out.next (Turned.of_below (HW1H.out t))).below HSB.out hB)) (Nat.le_succ L)) (by have:=HTN.out.size;have:=(HW1H.out t).size;omega) (HCS.out.box.keep (HW1H.out t))
    rw[HQ3.out] at h
    exact h).mono fun e w' h=>⟨h.1,Below.next (HW1H.out t) h.2⟩))
   clear HW1 HW2
   repeat (go_big_quiet_step (first | (go_at_call 64;exact HPR.out _)))
   refine wpQuiet_nil ?_
   intro t'
   obtain ⟨W7,hW7⟩:∃W7,W1 t'=W7:=⟨_,rfl⟩
   have HB12:=zh (show Below w10.heap.size w10 W7 from hW7 ▸ HW1H.out t')
   rw[hW7]
   clear y0 y3 yc hW7 HW1H HW2H HPR
   obtain rfl:r=q3:=by
    rw[←HR.out,fixR,HQ2.out,HQ.out,HL1.out,HQ3.out]
    rfl
   have HTN2:=zh (HTN.out.next (Turned.of_below HB12.out))
   have HXN2:=zh (HXN.out.turned (Turned.of_below (S:=fun _=>False) HB12.out) (fun _ h=>h.elim))
   have HCS2:=zh (HCS.out.keep HB12.out)
   go_wp2_with fail
   refine leaves_cons (f:=61) (args:=#[.pointer (some ⟨W.heap.size+1,0,none⟩),.pointer (some ⟨W.heap.size+1+1,0,none⟩)]) (by simp) (by simp[go_sem]) ?_
   refine (zaH 9 n v ov _ lv cv _ ct B (W.heap.size+1) (W.heap.size+1+1) sb l'.length (Trm.addV sc v) W7 (HVV.out.kept (HTN2.out.below HSB.out hB) fun _ _ _ h=>h) (by have:=HTN2.out.size;omega) (HSB.out sb (.inr (.inr rfl))) HXN2.out.t HXN2.out.s HCS2.out.scope).mono ?_
   rintro e11 u11 w11 ⟨rfl,rfl,hm11,ht11⟩
   have hcl:=zcF HCS2.out hm11 ht11 HDJ.out
   refine ⟨_,results_tmp rfl _ _ _,rfl,HTN2.out.next (ht11.wider fun b _ hb=>.inr (.inr hb)),fun _=>⟨l',?_,hcl⟩,fun _=>hcl.bad⟩
   have h1:=HPP.out
   simpa only[List.append_assoc] using h1
end
section
open Go Go.RowKit Mk
structure MkIn (W:World) (B base mb vb:Nat) (cv:Value) (X:Nat→Prop) (s:MSt):Prop where
 st:MkS W base mb vb cv X s
 b1:B≤base
 b2:B≤mb
 b3:B≤vb
 b4:base≤W.heap.size
 bx:∀b,X b→b<W.heap.size
theorem MkIn.low {W:World} {B base mb vb:Nat} {cv:Value} {X:Nat→Prop} {s:MSt} (h:MkIn W B base mb vb cv X s):∀b,SM mb vb cv b→B≤b:=fun b hb=>by
 rcases hb with rfl | rfl | hb
 ·exact h.b2
 ·exact h.b3
 ·obtain ⟨xs,hr,_⟩:=h.st.row
  exact Nat.le_trans h.b1 (zao hr hb)
theorem MkIn.size {W:World} {B base mb vb:Nat} {cv:Value} {X:Nat→Prop} {s:MSt} (h:MkIn W B base mb vb cv X s):B≤W.heap.size:=Nat.le_trans h.b1 h.b4
theorem MkIn.keep {W W':World} {B base mb vb:Nat} {cv:Value} {X:Nat→Prop} {s:MSt} (h:MkIn W B base mb vb cv X s) (hb:Below W.heap.size W W'):MkIn W' B base mb vb cv X s:=⟨h.st.below hb,h.b1,h.b2,h.b3,Nat.le_trans h.b4 hb.size,fun b hb'=>Nat.lt_of_lt_of_le (h.bx b hb') hb.size⟩
theorem MkIn.turn {W:World} {B base mb vb:Nat} {cv:Value} {X X':Nat→Prop} {s:MSt} (h:MkIn W B base mb vb cv X s) (hX:∀b,b<W.heap.size→X' b→X b) (hx:∀b,X' b→b<W.heap.size):MkIn W B base mb vb cv X' s:=⟨h.st.keep (Turned.refl (fun _=>False) W) (fun _ _ h=>h.elim) hX,h.b1,h.b2,h.b3,h.b4,hx⟩
structure MkGo (B base mb vb:Nat) (cv cv':Value) (X:Nat→Prop) (s':MSt) (w w':World):Prop where
 inn:MkIn w' B base mb vb cv' X s'
 turned:Turned (SM mb vb cv) w w'
 less:∀b,b<w.heap.size→SM mb vb cv' b→SM mb vb cv b
 low:Below B w w'
theorem MkGo.refl {B base mb vb:Nat} {cv:Value} {X:Nat→Prop} {s:MSt} {w:World} (h:MkIn w B base mb vb cv X s):MkGo B base mb vb cv cv X s w w:=⟨h,Turned.refl _ _,fun _ _ h=>h,Below.refl _ _⟩
theorem MkGo.next {B base mb vb:Nat} {cv cv' cv'':Value} {X X':Nat→Prop} {s' s'':MSt} {w w' w'':World} (h:MkGo B base mb vb cv cv' X s' w w') (h':MkGo B base mb vb cv' cv'' X' s'' w' w''):MkGo B base mb vb cv cv'' X' s'' w w'':=
 ⟨h'.inn,h.turned.trans h'.turned h.less,fun b hb hs=>h.less b hb (h'.less b (Nat.lt_of_lt_of_le hb h.turned.size) hs),h.low.trans h'.low⟩
theorem MkGo.before {B base mb vb:Nat} {cv cv':Value} {X:Nat→Prop} {s':MSt} {w w1 w':World} (hb:Below w.heap.size w w1) (hB:B≤w.heap.size) (h:MkGo B base mb vb cv cv' X s' w1 w'):MkGo B base mb vb cv cv' X s' w w':=
 ⟨h.inn,(Turned.of_below hb).next h.turned,fun b hlt hs=>h.less b (Nat.lt_of_lt_of_le hlt hb.size) hs,(hb.mono hB).trans h.low⟩
theorem MkGo.after {B base mb vb:Nat} {cv cv':Value} {X:Nat→Prop} {s':MSt} {w w1 w':World} (h:MkGo B base mb vb cv cv' X s' w w1) (hb:Below w1.heap.size w1 w'):MkGo B base mb vb cv cv' X s' w w':=
 h.next ⟨h.inn.keep hb,Turned.of_below hb,fun _ _ h=>h,hb.mono h.inn.size⟩
theorem MkS.apart {W:World} {base base2 mb vb n:Nat} {cv v:Value} {X:Nat→Prop} {s:MSt} {xs:List Value} (h:MkS W base mb vb cv X s) (ho:W.ownsRow base2 3 1 v n xs):∀b,v.ownBlock=some b→¬SM mb vb cv b:=fun b hb hs=>by
 obtain ⟨cs,f,hc⟩:=zaF ho b hb
 rcases hs with rfl | rfl | hs
 ·rw[show W.heap[b]?=_ from h.box] at hc
  simp at hc
 ·obtain ⟨D,⟨es,clock,hm,_⟩,_⟩:=h.vars
  rw[hm] at hc
  simp at hc
 ·obtain ⟨xs',hr,_⟩:=h.row
  obtain ⟨cs',f',hc'⟩:=zaF hr b hs
  rw[hc'] at hc
  simp at hc
theorem zbU {W:World} {b n:Nat} {f:Int→Int} (hown:MapVI W b n f) (k:Int) (hk:I64 k):(Instr.lookup 75 (.map (some b)) (.int .i64 k) false).run prog W=.ok (.int .i64 (f k)) W:=by
 obtain ⟨D,h1,h2,h3⟩:=hown
 obtain ⟨c,hrun,hat,hwc⟩:=h1.lookup_int zbJ underlying75 underlying3 (zeroI W) (zbc hk)
 have hc:=(h3 k).symm.trans hat
 obtain rfl:f k=c:=by simpa using hc
 exact hrun
theorem ziB {B base mb vb:Nat} {cv:Value} {X:Nat→Prop} {s:MSt} (p d q b:Int) (l:List Int) (ol:Option Addr) (ll cl:Nat) (W:World) (h:MkIn W B base mb vb cv X s) (hk:s.code.length≤1000000) (hop:I64 p) (hd:I64 d) (ha:I64 q) (hb:I64 b) (hl:IntsM W (fun b=>SM mb vb cv b∨X b) l (.slice ol ll cl)) :
  Calls prog 92 #[.pointer (some ⟨mb,0,none⟩),.agg #[.int .i64 p,.int .i64 d,.int .i64 q,.int .i64 b,.slice ol ll cl]] W fun e w'=>∃g cap c,e=.returned (.func (.func 104) #[] #[.pointer (some ⟨W.heap.size,0,none⟩),.pointer (some ⟨c,0,none⟩)]) ∧
   BoxL w' W.heap.size 74 [.pointer (some ⟨mb,0,none⟩)]∧BoxL w' c 3 [.int .i64 s.code.length]∧W.heap.size≤c∧MkGo B base mb vb cv (.slice (some ⟨g,0,none⟩) (s.code.length+1) cap) X (s.put ⟨p,d,q,b,l⟩) W w':=by
 obtain ⟨xs,hr,hc⟩:=h.st.row
 obtain ⟨ov,lv,cv2,rfl⟩:∃ov lv cv2,cv=.slice ov lv cv2:=by
  rcases hr.2 with ⟨rfl,_⟩ | ⟨g,cap,cur,rfl,_⟩
  ·exact ⟨_,_,_,rfl⟩
  ·exact ⟨_,_,_,rfl⟩
 refine (zlp base mb _ s.regs (.map (some vb)) _ ov lv cv2 rfl xs p d q b ol ll cl W h.st.box hr hk h.b4).mono ?_
 intro e w' hp
 obtain ⟨g,cap,c,he,h1,h2,h3,h4,h5,h6⟩:=h.st.laid ⟨p,d,q,b,l⟩ _ xs hr hc hop hd ha hb hl hp
 exact ⟨g,cap,c,he,h1,h2,h3,⟨h4,h.b1,h.b2,h.b3,Nat.le_trans h.b4 h5.size,fun b hb=>Nat.lt_of_lt_of_le (h.bx b hb) h5.size⟩,h5,h6,h5.below h.low h.size⟩
theorem zar {B base mb vb:Nat} {cv:Value} {X:Nat→Prop} {s:MSt} (p d q b:Int) (l:List Int) (ol:Option Addr) (ll cl:Nat) (W:World) (h:MkIn W B base mb vb cv X s) (hk:s.code.length≤1000000) (hop:I64 p) (hd:I64 d) (ha:I64 q) (hb:I64 b) (hl:IntsM W (fun b=>SM mb vb cv b∨X b) l (.slice ol ll cl)) :
  Calls prog 92 #[.pointer (some ⟨mb,0,none⟩),.agg #[.int .i64 p,.int .i64 d,.int .i64 q,.int .i64 b,.slice ol ll cl]] W fun e w'=>∃fv,e=.returned fv∧∃cv',MkGo B base mb vb cv cv' X (s.put ⟨p,d,q,b,l⟩) W w':=
 (ziB p d q b l ol ll cl W h hk hop hd ha hb hl).mono fun _e _w' ⟨_g,_cap,_c,he,_,_,_,hg⟩=>⟨_,he,_,hg⟩
def IntoC (e:Bool) (x:Trm):Prop:=∀(c0 c1 c2 c3:Value) (B base mb vb:Nat) (cv:Value) (X:Nat→Prop) (s:MSt) (d:Int) (nc nk:Int) (fr:Bool) (sc:Int→Bool) (W:World),TrmR W B x [c0,c1,c2,c3]→MkIn W B base mb vb cv X s→Trm.wf nc nk fr x sc=true→Room s (6*x.all-2)→0≤d∧d≤1900000 →
 Calls prog 34 #[.pointer (some ⟨mb,0,none⟩),.agg #[c0,c1,c2,c3],.int .i64 d,.bool e] W fun r w'=>r=.returned (.tuple #[])∧∃cv',MkGo B base mb vb cv cv' X (Mk.into Mk.lkL x d e s) W w'
def HadC (x:Trm):Prop:=∀(c0 c1 c2 c3:Value) (B base mb vb:Nat) (cv:Value) (X:Nat→Prop) (s:MSt) (nc nk:Int) (fr:Bool) (sc:Int→Bool) (W:World),TrmR W B x [c0,c1,c2,c3]→MkIn W B base mb vb cv X s→Trm.wf nc nk fr x sc=true→Room s (6*x.all-1) →
 Calls prog 93 #[.pointer (some ⟨mb,0,none⟩),.agg #[c0,c1,c2,c3]] W fun r w'=>r=.returned (.int .i64 (Mk.had Mk.lkL x s).1)∧∃cv',MkGo B base mb vb cv cv' X (Mk.had Mk.lkL x s).2 W w'
def AllC (l:List Trm):Prop:=∀(sl:Value) (B base mb vb:Nat) (cv:Value) (X:Nat→Prop) (s:MSt) (nc nk:Int) (fr:Bool) (sc:Int→Bool) (W:World),TrmS W B l sl→MkIn W B base mb vb cv X s→(∀x∈l,Trm.wf nc nk fr x sc=true)→Room s (6*Trm.allL l) →
 Calls prog 66 #[.pointer (some ⟨mb,0,none⟩),sl] W fun r w'=>∃rv,r=.returned rv∧∃cv',MkGo B base mb vb cv cv' X (Mk.allT Mk.lkL l s).2 W w'∧IntsM w' (fun b=>SM mb vb cv' b∨X b) (Mk.allT Mk.lkL l s).1 rv
theorem MkS.fresh {W:World} {base mb vb:Nat} {cv:Value} {X:Nat→Prop} {s:MSt} (h:MkS W base mb vb cv X s):MkS (W.setCell ⟨mb,1,none⟩ (.int .i64 (s.regs+1))) base mb vb cv X s.fresh:=by
 obtain ⟨xs,hr,hc⟩:=h.row
 have hT:Turned (fun b=>b=mb) W (W.setCell ⟨mb,1,none⟩ (.int .i64 (s.regs+1))):=Turned.set _ _ _ rfl
 refine ⟨h.box.set 1 _,⟨xs,zaM hr (fun c hcc=>zag _ _ _ fun e=>?_),hc.mono fun x _ cs hx=>hx.kept hT (fun b _ hb=>.inl (.inl hb)) (fun _ _ h=>h)⟩,h.vars.same (zag _ _ _ fun e=>zbt h.vars h.box e.symm)⟩
 have e:c=mb:=e
 subst e
 obtain ⟨cs',f,hc⟩:=zaF hr c hcc
 rw[show W.heap[c]?=_ from h.box] at hc
 simp at hc
end
section
open Go Go.RowKit
theorem zgw (op n:Int) (ov ot:Option Addr) (lv cv lt ct:Nat) (cb bb sb:Nat) (nc nk size:Int) (fr:Bool) (l:List Int) (sc:Int→Bool) (deep:Int) (W:World) (hc:ChkS W cb bb sb nc nk fr size l sc)
  (h0:0≤size) (h1:size+1≤20000) (h2:0≤deep) (h3:deep≤400) (f t le:Int) (any binds:Bool) (hf:f≤3) (ht3:t<3)
  (HSH:∀W,Calls prog 57 #[.int .i64 op] W fun e w'=>e=.returned (.tuple #[.agg #[.int .i64 f,.int .i64 t,.int .i64 le,.bool any,.bool binds],.bool true])∧Below W.heap.size W w') :
  Calls prog 32 #[.pointer (some ⟨cb,0,none⟩),.agg #[.int .i64 op,.int .i64 n,.slice ov lv cv,.slice ot lt ct],.map (some sb),.int .i64 deep] W (ChkPost cb bb sb nc nk fr false (fun _=>False) W):=by
 have hmf:∀(fn:Fn) (first cap:Array Value) (w:World),(Instr.makeFunc fn first cap).run prog w=.ok (.func fn first cap) w:=fun _ _ _ _=>rfl
 obtain ⟨W1,hW1⟩:∃W1,((((W.alloc (.cells #[.pointer (some ⟨cb,0,none⟩)] 67)).alloc (.cells #[.int .i64 op,.int .i64 n,.slice ov lv cv,.slice ot lt ct] 27)).alloc (.cells #[.map (some sb)] 68)).alloc (.cells #[.int .i64 deep] 3)).setCell ⟨cb,4,none⟩ (.int .i64 (size+1))=W1:=⟨_,rfl⟩
 have hbelow:=zbo W (.cells #[.pointer (some ⟨cb,0,none⟩)] 67) (.cells #[.int .i64 op,.int .i64 n,.slice ov lv cv,.slice ot lt ct] 27) (.cells #[.map (some sb)] 68) (.cells #[.int .i64 deep] 3)
 have HW:=zh hW1
 have HT1:=zh (show Turned (S3 cb bb sb) W W1 from by rw[←hW1];exact (Turned.of_below hbelow).next (Turned.set _ _ _ (.inl rfl)))
 have HC1:=zh (show ChkS W1 cb bb sb nc nk fr (size+1) l sc from by rw[←hW1];exact (hc.keep hbelow).sized _)
 have HX1:=zh (show RBox W1 W.heap.size cb sb op n (.slice ov lv cv) (.slice ot lt ct) deep from by
  rw[←hW1]
  exact (RBox.new W cb sb op n (.slice ov lv cv) (.slice ot lt ct) deep).turned (Turned.set (S:=fun b=>b=cb) _ _ _ rfl) (fun b hb=>by rw[hb];exact hc.box.lt))
 have c4:=(hc.box.keep hbelow).cell 4 rfl
 have cz:=(hc.box.keep hbelow).free 4
 have cl:=hc.box.lt
 have HC:=zh hc
 have HSH:=zh HSH
 clear hW1 hbelow hc
 go_enter_defers func32,ntmps32
 go_upto_region 2 with fail
 rw[HW.out]
 have t0:=HX1.out.t.cell 0 rfl
 have tl:=HX1.out.t.lt
 clear c4 cz cl
 go_wp2_with fail
 refine (HSH.out _).mono ?_
 rintro e w1 ⟨rfl,hb1⟩
 have HB1:=zh hb1
 clear hb1 HSH t0 tl
 go_upto_region 3 with fail
 obtain ⟨W3,hW3⟩:∃W3,w1.alloc (.cells #[.int .i64 f,.int .i64 t,.int .i64 le,.bool any,.bool binds] 109)=W3:=⟨_,rfl⟩
 have HB3:=zh (show Below W1.heap.size W1 W3 from by rw[←hW3];exact Below.next HB1.out (Below.one w1 _))
 have B9:=zh (show BoxL W3 w1.heap.size 109 [.int .i64 f,.int .i64 t,.int .i64 le,.bool any,.bool binds] from by rw[←hW3];exact BoxL.new rfl _ _)
 rw[hW3]
 clear hW3
 have HX3:=zh (HX1.out.turned (Turned.of_below (S:=fun _=>False) HB3.out) (fun _ h=>h.elim))
 have HC3:=zh (HC1.out.keep HB3.out)
 have HD:=zh ((Below.refl W3.heap.size W3).drew)
 have g0:decide (400<deep)=false:=decide_eq_false (by omega)
 have g1:decide (20000<size+1)=false:=decide_eq_false (by omega)
 have g2:decide (3<f)=false:=decide_eq_false (by omega)
 have g3:decide (t<3)=true:=decide_eq_true ht3
 refine zab (Below W3.heap.size W3) (by kernel_rfl) (by kernel_rfl) HD.out ?_
 intro T0 _ WW HWW HWW2
 have x0:∀t,(WW t).cell? _=_:=fun t=>((HWW t).cell (p:=⟨W.heap.size,0,none⟩) HX3.out.c.lt).trans (HX3.out.c.cell 0 rfl)
 have x1:∀t,(WW t).cell? _=_:=fun t=>((HWW t).cell (p:=⟨W.heap.size+1,0,none⟩) HX3.out.t.lt).trans (HX3.out.t.cell 0 rfl)
 have x2:∀t,(WW t).cell? _=_:=fun t=>((HWW t).cell (p:=⟨W.heap.size+1,1,none⟩) HX3.out.t.lt).trans (HX3.out.t.cell 1 rfl)
 have x3:∀t,(WW t).cell? _=_:=fun t=>((HWW t).cell (p:=⟨W.heap.size+1,2,none⟩) HX3.out.t.lt).trans (HX3.out.t.cell 2 rfl)
 have x4:∀t,(WW t).cell? _=_:=fun t=>((HWW t).cell (p:=⟨W.heap.size+1,3,none⟩) HX3.out.t.lt).trans (HX3.out.t.cell 3 rfl)
 have x5:∀t,(WW t).cell? _=_:=fun t=>((HWW t).cell (p:=⟨W.heap.size+1+1,0,none⟩) HX3.out.s.lt).trans (HX3.out.s.cell 0 rfl)
 have x6:∀t,(WW t).cell? _=_:=fun t=>((HWW t).cell (p:=⟨W.heap.size+1+1+1,0,none⟩) HX3.out.d.lt).trans (HX3.out.d.cell 0 rfl)
 have y0:∀t,(WW t).cell? _=_:=fun t=>((HWW t).cell (p:=⟨cb,0,none⟩) HC3.out.box.lt).trans (HC3.out.box.cell 0 rfl)
 have y4:∀t,(WW t).cell? _=_:=fun t=>((HWW t).cell (p:=⟨cb,4,none⟩) HC3.out.box.lt).trans (HC3.out.box.cell 4 rfl)
 have z0:∀t,(WW t).cell? _=_:=fun t=>((HWW t).cell (p:=⟨w1.heap.size,0,none⟩) B9.out.lt).trans (B9.out.cell 0 rfl)
 have z1:∀t,(WW t).cell? _=_:=fun t=>((HWW t).cell (p:=⟨w1.heap.size,1,none⟩) B9.out.lt).trans (B9.out.cell 1 rfl)
 have z2:∀t,(WW t).cell? _=_:=fun t=>((HWW t).cell (p:=⟨w1.heap.size,2,none⟩) B9.out.lt).trans (B9.out.cell 2 rfl)
 have z3:∀t,(WW t).cell? _=_:=fun t=>((HWW t).cell (p:=⟨w1.heap.size,3,none⟩) B9.out.lt).trans (B9.out.cell 3 rfl)
 have z4:∀t,(WW t).cell? _=_:=fun t=>((HWW t).cell (p:=⟨w1.heap.size,4,none⟩) B9.out.lt).trans (B9.out.cell 4 rfl)
 have HWH:=zh HWW
 have HW2:=zh HWW2
 clear HWW HWW2
 repeat (go_big_quiet_step (fail))
 refine wpQuiet_nil ?_
 intro t
 have HBB:=zh (HWH.out t)
 clear x0 x1 x2 x3 x4 x5 x6 y0 y4 z0 z1 z2 z3 z4
 go_wp2_with fail
 refine ⟨_,results_tmp rfl _ _ _,rfl,HT1.out.next (Turned.of_below (Below.next HB3.out HBB.out)),fun h=>by simp at h,fun _=>(HC3.out.keep HBB.out).bad⟩
theorem ChkPost.no {cb bb sb:Nat} {nc nk:Int} {fr:Bool} {G G':World→Prop} {w:World} {e:Ending} {w':World} (h:ChkPost cb bb sb nc nk fr false G w e w'):ChkPost cb bb sb nc nk fr false G' w e w':=⟨h.1,h.2.1,(fun h=>by cases h),h.2.2.2⟩
theorem ChkPost.good {cb bb sb:Nat} {nc nk:Int} {fr r:Bool} {G G':World→Prop} {w:World} {e:Ending} {w':World} (h:ChkPost cb bb sb nc nk fr r G w e w') (hg:∀w,G w→G' w):ChkPost cb bb sb nc nk fr r G' w e w':=⟨h.1,h.2.1,fun hr=>hg _ (h.2.2.1 hr),h.2.2.2⟩
theorem zfB (ts:List Trm) (j:Nat):Trm.bndL (ts.take j)++Trm.bndL (ts.drop j)=Trm.bndL ts:=by rw[←zbs,List.take_append_drop]
theorem zfp (v:List Int) (ts:List Trm) (j:Nat):(Trm.bndL (ts.take j)++v++Trm.bndL (ts.drop j)).Perm (v++Trm.bndL ts):=by
 rw[←zfB ts j,←List.append_assoc]
 exact List.perm_append_comm.append_right _
theorem zhn {nc nk:Int} {fr:Bool} {sc:Int→Bool} {op:Int} (ho:op≠9) (l v:List Int) (ts:List Trm):plainR nc nk fr sc l v ts=(Trm.wfL nc nk fr op v ts sc&&Trm.newB (fun _=>false) (l++(v++Trm.bndL ts))):=by
 rw[plainR,zbZ ho,←Trm.newB_perm ((zfp v ts (ts.length-1)).append_left l),okL,okL,Bool.eq_iff_iff]
 simp only[Bool.and_eq_true]
 constructor
 ·rintro ⟨⟨h1,h2⟩,h3,h4,h5⟩
  exact ⟨⟨h1,h4⟩,by simpa only[List.append_assoc] using h5⟩
 ·rintro ⟨⟨h1,h2⟩,h3⟩
  have h4:Trm.newB (fun _=>false) (l++Trm.bndL (ts.take (ts.length-1))++v++Trm.bndL (ts.drop (ts.length-1)))=true:=by simpa only[List.append_assoc] using h3
  exact ⟨⟨h1,zaO (zaO h4)⟩,zaO h4,h2,h4⟩
theorem zlP {nc nk:Int} {fr:Bool} {sc:Int→Bool} (l v:List Int) (ts:List Trm):fixR nc nk fr sc l v ts=(Trm.wfL nc nk fr 9 v ts sc&&Trm.newB (fun _=>false) (l++(v++Trm.bndL ts))):=by
 rw[fixR,zdI,okL,Bool.eq_iff_iff]
 simp only[Bool.and_eq_true,←List.append_assoc]
 constructor
 ·rintro ⟨h1,⟨h2,h3⟩,h4⟩
  exact ⟨⟨h2,h4⟩,h3⟩
 ·rintro ⟨⟨h2,h4⟩,h3⟩
  exact ⟨zaO h3,⟨h2,h3⟩,h4⟩
theorem GoodR.perm {cb bb sb:Nat} {nc nk:Int} {fr:Bool} {size size':Int} {l b b':List Int} {sc:Int→Bool} {w':World} (h:GoodR cb bb sb nc nk fr size l b sc w') (hp:b.Perm b') (hs:size=size'):GoodR cb bb sb nc nk fr size' l b' sc w':=by
 obtain ⟨l',h1,h2⟩:=h
 exact ⟨l',h1.trans (hp.append_left l),hs ▸ h2⟩
theorem zb6 (op n:Int) (v:List Int) (ts:List Trm) (hso:Trm.sortB op=false) (f t le:Int) (any binds:Bool) (f1:f≤3) (f2:t<3)
  (HSH:∀W,Calls prog 57 #[.int .i64 op] W fun e w'=>e=.returned (.tuple #[.agg #[.int .i64 f,.int .i64 t,.int .i64 le,.bool any,.bool binds],.bool true])∧Below W.heap.size W w'):RightC (.mk op n v ts):=by
 intro c0 c1 c2 c3 B cb bb sb nc nk size fr l sc deep W hv hS hB hc hsc h0 h1 h2 h3
 have hall:=(Trm.mk op n v ts).all_pos
 obtain ⟨vs',ts',he,_,hn,hvs,hts⟩:=zas.1 hv
 simp only[List.cons.injEq,and_true] at he
 obtain ⟨rfl,rfl,rfl,rfl⟩:=he
 obtain ⟨ov,lv,cv,rfl⟩:=hvs.form
 obtain ⟨ot,lt,ct,rfl⟩:=hts.form
 rw[show (Trm.wf nc nk fr (.mk op n v ts) sc&&Trm.newB (fun _=>false) (l++(Trm.mk op n v ts).bnd))=false from by rw[Trm.wf,hso];rfl]
 exact (zgw op n ov ot lv cv lt ct cb bb sb nc nk size fr l sc deep W hc h0 (by omega) h2 (by omega) f t le any binds f1 f2 HSH).mono fun e w' h=>h.no
theorem zix (op n:Int) (v:List Int) (ts:List Trm) (ho:op<0∨22<op):RightC (.mk op n v ts):=by
 intro c0 c1 c2 c3 B cb bb sb nc nk size fr l sc deep W hv hS hB hc hsc h0 h1 h2 h3
 have hall:=(Trm.mk op n v ts).all_pos
 obtain ⟨vs',ts',he,_,hn,hvs,hts⟩:=zas.1 hv
 simp only[List.cons.injEq,and_true] at he
 obtain ⟨rfl,rfl,rfl,rfl⟩:=he
 obtain ⟨ov,lv,cv,rfl⟩:=hvs.form
 obtain ⟨ot,lt,ct,rfl⟩:=hts.form
 rw[show (Trm.wf nc nk fr (.mk op n v ts) sc&&Trm.newB (fun _=>false) (l++(Trm.mk op n v ts).bnd))=false from by
  rw[Trm.wf,show Trm.sortB op=false from by simp[Trm.sortB];omega];rfl]
 exact (zeb op n ov ot lv cv lt ct cb bb sb nc nk size fr l sc deep W hc h0 (by omega) h2 (by omega) 0 0 0 false false false true true (fun h=>by cases h) (fun h=>by cases h) (ziX op ho) (fun h=>by cases h) (fun h=>by cases h) rfl).mono fun e w' h=>h.no
theorem zaC (op n:Int) (v:List Int) (ts:List Trm) (hso:Trm.sortB op=true) (h7:op≠7) (ih:∀x∈ts,RightC x) (f t le:Int) (any binds:Bool) (f1:f≤3) (f2:3≤t)
  (HSH:∀W,Calls prog 57 #[.int .i64 op] W fun e w'=>e=.returned (.tuple #[.agg #[.int .i64 f,.int .i64 t,.int .i64 le,.bool any,.bool binds],.bool true])∧Below W.heap.size W w')
  (HFT:∀(ov ot:Option Addr) (lv cv lt ct:Nat) (W:World),lt≤ct→ct≤9223372036854775807→lv≤cv→cv≤9223372036854775807→Calls prog 58 #[.agg #[.int .i64 f,.int .i64 t,.int .i64 le,.bool any,.bool binds],.agg #[.int .i64 op,.int .i64 n,.slice ov lv cv,.slice ot lt ct]] W fun e w'=>e=.returned (.bool (Trm.countsB op lv lt))∧Below W.heap.size W w')
  (HNU:∀(cb sb bb m:Nat) (nc nk size:Int) (fr:Bool) (sc:Int→Bool) (ov ot:Option Addr) (lv cv lt ct:Nat) (w:World),I64 n→BoxL w cb 70 [.int .i64 3,.int .i64 nc,.int .i64 nk,.bool fr,.int .i64 size,.map (some bb)]→MapVB w sb m sc→Calls prog 59 #[.pointer (some ⟨cb,0,none⟩),.agg #[.int .i64 op,.int .i64 n,.slice ov lv cv,.slice ot lt ct],.map (some sb)] w fun e w'=>e=.returned (.bool (Trm.numberB nc nk fr sc op n))∧Below w.heap.size w w'):RightC (.mk op n v ts):=by
 intro c0 c1 c2 c3 B cb bb sb nc nk size fr l sc deep W hv hS hB hc hsc h0 h1 h2 h3
 have hall:(Trm.mk op n v ts).all=1+Trm.allL ts:=by rw[Trm.all]
 obtain ⟨vs',ts',he,_,hn,hvs,hts⟩:=zas.1 hv
 simp only[List.cons.injEq,and_true] at he
 obtain ⟨rfl,rfl,rfl,rfl⟩:=he
 obtain ⟨ov,lv,cv,rfl⟩:=hvs.form
 obtain ⟨ot,lt,ct,rfl⟩:=hts.form
 obtain ⟨a1,a2,a3⟩:=hvs.lens
 obtain ⟨b1,b2,b3⟩:=SlC.lens (show SlC W B 4 (TrmR W B) ts (.slice ot lt ct) from hts)
 have hft:=fun W=>HFT ov ot lv cv lt ct W b2 b3 a2 a3
 have hnu:∀W,ChkS W cb bb sb nc nk fr (size+1) l sc→Calls prog 59 #[.pointer (some ⟨cb,0,none⟩),.agg #[.int .i64 op,.int .i64 n,.slice ov lv cv,.slice ot lt ct],.map (some sb)] W fun e w'=>e=.returned (.bool (Trm.numberB nc nk fr sc op n))∧Below W.heap.size W w':=fun W h=>HNU cb sb bb _ nc nk _ fr sc ov ot lv cv lt ct W hn h.box h.scope
 have hwf:Trm.wf nc nk fr (.mk op n v ts) sc=(Trm.countsB op lv lt&&(Trm.numberB nc nk fr sc op n&&Trm.wfL nc nk fr op v ts sc)):=by rw[Trm.wf,hso,Bool.true_and,a1,b1]
 have hlen:=Trm.allL_length ts
 have hbnd:(Trm.mk op n v ts).bnd=v++Trm.bndL ts:=by rw[Trm.bnd]
 cases hq:(Trm.countsB op lv lt&&Trm.numberB nc nk fr sc op n) with
 | false=>
  rw[show (Trm.wf nc nk fr (.mk op n v ts) sc&&Trm.newB (fun _=>false) (l++(Trm.mk op n v ts).bnd))=false from by rw[hwf,←Bool.and_assoc,hq];rfl]
  exact (zeb op n ov ot lv cv lt ct cb bb sb nc nk size fr l sc deep W hc h0 (by omega) h2 (by omega) f t le any binds true _ _ (fun _=>f1) (fun _=>f2) HSH (fun _=>hft) (fun _ _=>hnu) (by rw[Bool.true_and];exact hq)).mono fun e w' h=>h.no
 | true=>
  rw[Bool.and_eq_true] at hq
  rw[hq.1] at hft
  rw[hq.2] at hnu
  rw[hwf,hq.1,hq.2,Bool.true_and,Bool.true_and,hbnd]
  by_cases h9:op=9
  ·subst h9
   have hl:ts.length=v.length+1:=by
    have:=hq.1
    have:lt=lv+1:=by simpa[Trm.countsB] using this
    omega
   rw[←zlP]
   have hm:=zfD 9 n v ts ov ot lv cv lt ct B cb bb sb nc nk size fr l sc deep W hc hvs hts hS hB hsc ih b1 (by omega) h0 (by omega) h2 (by omega) f t le any binds f1 f2 rfl (by decide) hl HSH hft hnu _ rfl
   refine hm.mono fun e w' h=>h.good fun w hg=>hg.perm (List.Perm.refl _) (by rw[hall];omega)
  ·have hg:(op==7 || op==9)=false:=by simp[h7,h9]
   rw[←zhn h9]
   have hm:=zd8 op n v ts ov ot lv cv lt ct B cb bb sb nc nk size fr l sc deep W hc hvs hts hS hB hsc ih b1 (by omega) h0 (by omega) h2 (by omega) f t le any binds f1 f2 h9 hg HSH hft hnu _ rfl
   refine hm.mono fun e w' h=>h.good fun w hg=>hg.perm (zfp v ts _) (by rw[hall];omega)
theorem zb7 (x:Trm):RightC x:=by
 induction x using Trm.ind with
 | _ op n v ts ih=>
 by_cases ho:op<0∨22<op
 ·exact zix op n v ts ho
 have hop:op=0∨op=1∨op=3∨op=5∨op=6∨op=8∨op=9∨op=10∨op=11∨op=12∨op=13∨op=15∨op=16∨op=17∨op=18∨op=19∨op=20∨op=21∨op=22∨op=2∨op=4∨op=7∨op=14:=by omega
 clear ho
 rcases hop with rfl | rfl | rfl | rfl | rfl | rfl | rfl | rfl | rfl | rfl | rfl | rfl | rfl | rfl | rfl | rfl | rfl | rfl | rfl | rfl | rfl | rfl | rfl
 ·exact zaC 0 n v ts (by decide) (by decide) ih 0 3 0 false false (by decide) (by decide) zlH (fun ov ot lv cv lt ct W _ _ _ _=>by
   have h:=zat 0 3 0 n 0 false ov ot lv cv lt ct W
   rwa[show ((decide (lt=0) || (false&&decide (0≤lt)))&&decide (lv=0))=Trm.countsB 0 lv lt from by
    rw[Bool.eq_iff_iff]
    simp[Trm.countsB]
    try omega] at h) (fun cb sb bb m nc nk size fr sc ov ot lv cv lt ct w hn hc hm=>zi4 cb sb bb m nc nk size n fr sc ov ot lv cv lt ct w hn hc hm _ rfl)
 ·exact zaC 1 n v ts (by decide) (by decide) ih 0 3 0 false false (by decide) (by decide) zlM (fun ov ot lv cv lt ct W _ _ _ _=>by
   have h:=zat 0 3 1 n 0 false ov ot lv cv lt ct W
   rwa[show ((decide (lt=0) || (false&&decide (0≤lt)))&&decide (lv=0))=Trm.countsB 1 lv lt from by
    rw[Bool.eq_iff_iff]
    simp[Trm.countsB]
    try omega] at h) (fun cb sb bb m nc nk size fr sc ov ot lv cv lt ct w hn hc hm=>zkp cb sb bb m nc nk size n fr sc ov ot lv cv lt ct w hn hc hm _ rfl)
 ·exact zaC 3 n v ts (by decide) (by decide) ih 0 3 3 false false (by decide) (by decide) zlz (fun ov ot lv cv lt ct W _ _ _ _=>by
   have h:=zat 0 3 3 n 3 false ov ot lv cv lt ct W
   rwa[show ((decide (lt=3) || (false&&decide (3≤lt)))&&decide (lv=0))=Trm.countsB 3 lv lt from by
    rw[Bool.eq_iff_iff]
    simp[Trm.countsB]
    try omega] at h) (fun cb sb bb m nc nk size fr sc ov ot lv cv lt ct w hn hc hm=>zjL cb sb bb m nc nk size n fr sc ov ot lv cv lt ct w hn hc hm _ rfl)
 ·exact zaC 5 n v ts (by decide) (by decide) ih 0 3 1 true false (by decide) (by decide) zkR (fun ov ot lv cv lt ct W _ _ _ _=>by
   have h:=zat 0 3 5 n 1 true ov ot lv cv lt ct W
   rwa[show ((decide (lt=1) || (true&&decide (1≤lt)))&&decide (lv=0))=Trm.countsB 5 lv lt from by
    rw[Bool.eq_iff_iff]
    simp[Trm.countsB]
    try omega] at h) (fun cb sb bb m nc nk size fr sc ov ot lv cv lt ct w hn hc hm=>zi5 cb sb bb m nc nk size n fr sc ov ot lv cv lt ct w hn hc hm _ rfl)
 ·exact zaC 6 n v ts (by decide) (by decide) ih 0 3 1 true false (by decide) (by decide) zkV (fun ov ot lv cv lt ct W _ _ _ _=>by
   have h:=zat 0 3 6 n 1 true ov ot lv cv lt ct W
   rwa[show ((decide (lt=1) || (true&&decide (1≤lt)))&&decide (lv=0))=Trm.countsB 6 lv lt from by
    rw[Bool.eq_iff_iff]
    simp[Trm.countsB]
    try omega] at h) (fun cb sb bb m nc nk size fr sc ov ot lv cv lt ct w hn hc hm=>zj0 cb sb bb m nc nk size n fr sc ov ot lv cv lt ct w hn hc hm _ rfl)
 ·exact zaC 8 n v ts (by decide) (by decide) ih 1 3 0 false true (by decide) (by decide) zlN (fun ov ot lv cv lt ct W h1 h2 h3 h4=>by
   have h:=zcJ 1 3 8 n ov ot lv cv lt ct (by decide) h1 h2 h3 h4 W
   rwa[show decide (lt=lv+1)=Trm.countsB 8 lv lt from by simp[Trm.countsB]] at h) (fun cb sb bb m nc nk size fr sc ov ot lv cv lt ct w hn hc hm=>zkk cb sb bb m nc nk size n fr sc ov ot lv cv lt ct w hn hc hm _ rfl)
 ·exact zaC 9 n v ts (by decide) (by decide) ih 1 3 0 false true (by decide) (by decide) zlK (fun ov ot lv cv lt ct W h1 h2 h3 h4=>by
   have h:=zcJ 1 3 9 n ov ot lv cv lt ct (by decide) h1 h2 h3 h4 W
   rwa[show decide (lt=lv+1)=Trm.countsB 9 lv lt from by simp[Trm.countsB]] at h) (fun cb sb bb m nc nk size fr sc ov ot lv cv lt ct w hn hc hm=>zjU cb sb bb m nc nk size n fr sc ov ot lv cv lt ct w hn hc hm _ rfl)
 ·exact zaC 10 n v ts (by decide) (by decide) ih 2 3 0 true false (by decide) (by decide) zi6 (fun ov ot lv cv lt ct W _ _ _ _=>by
   have h:=zat 2 3 10 n 0 true ov ot lv cv lt ct W
   rwa[show ((decide (lt=0) || (true&&decide (0≤lt)))&&decide (lv=0))=Trm.countsB 10 lv lt from by
    rw[Bool.eq_iff_iff]
    simp[Trm.countsB]
    try omega] at h) (fun cb sb bb m nc nk size fr sc ov ot lv cv lt ct w hn hc hm=>zim cb sb bb m nc nk size n fr sc ov ot lv cv lt ct w hn hc hm _ rfl)
 ·exact zaC 11 n v ts (by decide) (by decide) ih 0 3 0 false false (by decide) (by decide) zkm (fun ov ot lv cv lt ct W _ _ _ _=>by
   have h:=zat 0 3 11 n 0 false ov ot lv cv lt ct W
   rwa[show ((decide (lt=0) || (false&&decide (0≤lt)))&&decide (lv=0))=Trm.countsB 11 lv lt from by
    rw[Bool.eq_iff_iff]
    simp[Trm.countsB]
    try omega] at h) (fun cb sb bb m nc nk size fr sc ov ot lv cv lt ct w hn hc hm=>zib cb sb bb m nc nk size n fr sc ov ot lv cv lt ct w hn hc hm _ rfl)
 ·exact zaC 12 n v ts (by decide) (by decide) ih 1 3 1 false false (by decide) (by decide) zkx (fun ov ot lv cv lt ct W _ _ _ _=>by
   have h:=zat 1 3 12 n 1 false ov ot lv cv lt ct W
   rwa[show ((decide (lt=1) || (false&&decide (1≤lt)))&&decide (lv=0))=Trm.countsB 12 lv lt from by
    rw[Bool.eq_iff_iff]
    simp[Trm.countsB]
    try omega] at h) (fun cb sb bb m nc nk size fr sc ov ot lv cv lt ct w hn hc hm=>zgT cb sb bb m nc nk size n fr sc ov ot lv cv lt ct w hn hc hm _ rfl)
 ·exact zaC 13 n v ts (by decide) (by decide) ih 1 3 0 false false (by decide) (by decide) zj8 (fun ov ot lv cv lt ct W _ _ _ _=>by
   have h:=zat 1 3 13 n 0 false ov ot lv cv lt ct W
   rwa[show ((decide (lt=0) || (false&&decide (0≤lt)))&&decide (lv=0))=Trm.countsB 13 lv lt from by
    rw[Bool.eq_iff_iff]
    simp[Trm.countsB]
    try omega] at h) (fun cb sb bb m nc nk size fr sc ov ot lv cv lt ct w hn hc hm=>zhH cb sb bb m nc nk size n fr sc ov ot lv cv lt ct w hn hc hm _ rfl)
 ·exact zaC 15 n v ts (by decide) (by decide) ih 2 3 1 false false (by decide) (by decide) zjV (fun ov ot lv cv lt ct W _ _ _ _=>by
   have h:=zat 2 3 15 n 1 false ov ot lv cv lt ct W
   rwa[show ((decide (lt=1) || (false&&decide (1≤lt)))&&decide (lv=0))=Trm.countsB 15 lv lt from by
    rw[Bool.eq_iff_iff]
    simp[Trm.countsB]
    try omega] at h) (fun cb sb bb m nc nk size fr sc ov ot lv cv lt ct w hn hc hm=>zhO cb sb bb m nc nk size n fr sc ov ot lv cv lt ct w hn hc hm _ rfl)
 ·exact zaC 16 n v ts (by decide) (by decide) ih 2 3 1 false false (by decide) (by decide) zjR (fun ov ot lv cv lt ct W _ _ _ _=>by
   have h:=zat 2 3 16 n 1 false ov ot lv cv lt ct W
   rwa[show ((decide (lt=1) || (false&&decide (1≤lt)))&&decide (lv=0))=Trm.countsB 16 lv lt from by
    rw[Bool.eq_iff_iff]
    simp[Trm.countsB]
    try omega] at h) (fun cb sb bb m nc nk size fr sc ov ot lv cv lt ct w hn hc hm=>zgW cb sb bb m nc nk size n fr sc ov ot lv cv lt ct w hn hc hm _ rfl)
 ·exact zaC 17 n v ts (by decide) (by decide) ih 2 3 2 false false (by decide) (by decide) zjB (fun ov ot lv cv lt ct W _ _ _ _=>by
   have h:=zat 2 3 17 n 2 false ov ot lv cv lt ct W
   rwa[show ((decide (lt=2) || (false&&decide (2≤lt)))&&decide (lv=0))=Trm.countsB 17 lv lt from by
    rw[Bool.eq_iff_iff]
    simp[Trm.countsB]
    try omega] at h) (fun cb sb bb m nc nk size fr sc ov ot lv cv lt ct w hn hc hm=>zhk cb sb bb m nc nk size n fr sc ov ot lv cv lt ct w hn hc hm _ rfl)
 ·exact zaC 18 n v ts (by decide) (by decide) ih 2 3 2 false false (by decide) (by decide) zky (fun ov ot lv cv lt ct W _ _ _ _=>by
   have h:=zat 2 3 18 n 2 false ov ot lv cv lt ct W
   rwa[show ((decide (lt=2) || (false&&decide (2≤lt)))&&decide (lv=0))=Trm.countsB 18 lv lt from by
    rw[Bool.eq_iff_iff]
    simp[Trm.countsB]
    try omega] at h) (fun cb sb bb m nc nk size fr sc ov ot lv cv lt ct w hn hc hm=>zhj cb sb bb m nc nk size n fr sc ov ot lv cv lt ct w hn hc hm _ rfl)
 ·exact zaC 19 n v ts (by decide) (by decide) ih 3 3 0 true false (by decide) (by decide) zi3 (fun ov ot lv cv lt ct W _ _ _ _=>by
   have h:=zat 3 3 19 n 0 true ov ot lv cv lt ct W
   rwa[show ((decide (lt=0) || (true&&decide (0≤lt)))&&decide (lv=0))=Trm.countsB 19 lv lt from by
    rw[Bool.eq_iff_iff]
    simp[Trm.countsB]
    try omega] at h) (fun cb sb bb m nc nk size fr sc ov ot lv cv lt ct w hn hc hm=>zg5 cb sb bb m nc nk size n fr sc ov ot lv cv lt ct w hn hc hm _ rfl)
 ·exact zaC 20 n v ts (by decide) (by decide) ih 3 3 0 false false (by decide) (by decide) zjG (fun ov ot lv cv lt ct W _ _ _ _=>by
   have h:=zat 3 3 20 n 0 false ov ot lv cv lt ct W
   rwa[show ((decide (lt=0) || (false&&decide (0≤lt)))&&decide (lv=0))=Trm.countsB 20 lv lt from by
    rw[Bool.eq_iff_iff]
    simp[Trm.countsB]
    try omega] at h) (fun cb sb bb m nc nk size fr sc ov ot lv cv lt ct w hn hc hm=>zhu cb sb bb m nc nk size n fr sc ov ot lv cv lt ct w hn hc hm _ rfl)
 ·exact zaC 21 n v ts (by decide) (by decide) ih 3 3 0 false false (by decide) (by decide) zj6 (fun ov ot lv cv lt ct W _ _ _ _=>by
   have h:=zat 3 3 21 n 0 false ov ot lv cv lt ct W
   rwa[show ((decide (lt=0) || (false&&decide (0≤lt)))&&decide (lv=0))=Trm.countsB 21 lv lt from by
    rw[Bool.eq_iff_iff]
    simp[Trm.countsB]
    try omega] at h) (fun cb sb bb m nc nk size fr sc ov ot lv cv lt ct w hn hc hm=>zgV cb sb bb m nc nk size n fr sc ov ot lv cv lt ct w hn hc hm _ rfl)
 ·exact zaC 22 n v ts (by decide) (by decide) ih 3 3 1 true false (by decide) (by decide) zkz (fun ov ot lv cv lt ct W _ _ _ _=>by
   have h:=zat 3 3 22 n 1 true ov ot lv cv lt ct W
   rwa[show ((decide (lt=1) || (true&&decide (1≤lt)))&&decide (lv=0))=Trm.countsB 22 lv lt from by
    rw[Bool.eq_iff_iff]
    simp[Trm.countsB]
    try omega] at h) (fun cb sb bb m nc nk size fr sc ov ot lv cv lt ct w hn hc hm=>zhX cb sb bb m nc nk size n fr sc ov ot lv cv lt ct w hn hc hm _ rfl)
 ·exact zb6 2 n v ts (by decide) 0 1 1 false false (by decide) (by decide) zlG
 ·exact zb6 4 n v ts (by decide) 0 2 1 false true (by decide) (by decide) zk9
 ·exact zb6 7 n v ts (by decide) 0 0 0 false true (by decide) (by decide) zlE
 ·exact zb6 14 n v ts (by decide) 1 1 1 false false (by decide) (by decide) zjO
end
section
open Go Go.RowKit Mk
theorem CellsG.turn {α:Type} {size:Nat} {R:α→List Value→Prop} {f:α→α} {j:Nat} {u:Value} (hj:j<size) (hR:∀x cs,R x cs→cs.length=size→R (f x) (cs.set j u)):∀{l:List α} {xs:List Value} {k:Nat},CellsG size R l xs→k<l.length→CellsG size R (l.modify k f) (xs.set (k*size+j) u)
 | [],_,k,_,hk=>by simp at hk
 | x::l,xs,0,⟨cs,r,he,hs,hx,hr⟩,_=>by
  rw[List.modify_zero_cons,Nat.zero_mul,Nat.zero_add,he]
  exact ⟨cs.set j u,r,by rw[List.set_append_left _ _ (by omega)],by simp[hs],hR x cs hx hs,hr⟩
 | x::l,xs,k+1,⟨cs,r,he,hs,hx,hr⟩,hk=>by
  rw[List.modify_succ_cons,he]
  refine ⟨cs,r.set (k*size+j) u,?_,hs,hx,CellsG.turn hj hR hr (by simpa using hk)⟩
  rw[List.set_append_right _ _ (by rw[hs,Nat.add_mul];omega),hs,show (k+1)*size+j-size=k*size+j by rw[Nat.add_mul];omega]
theorem MkS.opened {W:World} {base mb vb:Nat} {cv:Value} {X:Nat→Prop} {s:MSt} (h:MkS W base mb vb cv X s) {k:Nat} {x:Ins} (hx:s.code[k]?=some x):∃g cap L,cv=.slice (some ⟨g,0,none⟩) s.code.length cap∧BoxL W g 49 L∧L[k*5]?=some (.int .i64 x.op)∧L[k*5+2]?=some (.int .i64 x.a)∧L[k*5+3]?=some (.int .i64 x.b):=by
 obtain ⟨xs,hr,hc⟩:=h.row
 have hk:=(List.getElem?_eq_some_iff.1 hx).1
 rcases hr.2 with ⟨_,h0⟩ | ⟨g,cap,cur,rfl,hb,hg,hle,hm,hsz,htk⟩
 ·omega
 ·obtain ⟨cs,h1,⟨sl,hcs,_⟩,h3⟩:=hc.at hx
  subst hcs
  have ht:∀j u,xs[j]?=some u→cur.toList[j]?=some u:=fun j u hj=>by
   rw[←htk,List.getElem?_take] at hj
   split at hj
   ·exact hj
   ·cases hj
  exact ⟨g,cap,cur.toList,rfl,hg,ht _ _ (by simpa using h3 0 _ rfl),ht _ _ (h3 2 _ rfl),ht _ _ (h3 3 _ rfl)⟩
theorem MkS.patched {W:World} {base mb vb g cap:Nat} {X:Nat→Prop} {s s':MSt} (h:MkS W base mb vb (.slice (some ⟨g,0,none⟩) s.code.length cap) X s) {k j:Nat} (n:Int) (f:Ins→Ins) (hk:k<s.code.length) (hj:j<5) (hs:s' = { s with code:=s.code.modify k f })
  (hf:∀(R:Ins→List Value→Prop) x sl,(R=InsM (W.setCell ⟨g,k*5+j,none⟩ (.int .i64 n)) (fun b=>SM mb vb (.slice (some ⟨g,0,none⟩) s.code.length cap) b∨X b))→R x [.int .i64 x.op,.int .i64 x.d,.int .i64 x.a,.int .i64 x.b,sl]→R (f x) ([.int .i64 x.op,.int .i64 x.d,.int .i64 x.a,.int .i64 x.b,sl].set j (.int .i64 n))) :
  MkS (W.setCell ⟨g,k*5+j,none⟩ (.int .i64 n)) base mb vb (.slice (some ⟨g,0,none⟩) s.code.length cap) X s':=by
 subst hs
 obtain ⟨xs,hr,hc⟩:=h.row
 have hne:g≠mb:=fun e=>by
  obtain ⟨cs,fz,hg⟩:=zaF hr g rfl
  rw[e,show W.heap[mb]?=_ from h.box] at hg
  simp at hg
 have hnv:g≠vb:=fun e=>zbP h.vars hr rfl e
 have hT:Turned (fun b=>b=g) W (W.setCell ⟨g,k*5+j,none⟩ (.int .i64 n)):=Turned.set _ _ _ rfl
 refine ⟨h.box.other _ _ hne.symm,⟨xs.set (k*5+j) (.int .i64 n),?_,?_⟩,h.vars.same (zag _ _ _ hnv.symm)⟩
 ·have hl:(s.code.modify k f).length=s.code.length:=by simp
  rw[hl]
  refine ⟨by simpa using hr.1,.inr ?_⟩
  rcases hr.2 with ⟨_,h0⟩ | ⟨g',cap',cur,he,hb,hg,hle,hm,hsz,htk⟩
  ·omega
  ·simp only[Value.slice.injEq,Option.some.injEq,Addr.mk.injEq,and_true,true_and] at he
   obtain ⟨rfl,rfl⟩:=he
   have hb2:BoxL W g 49 cur.toList:=hg
   refine ⟨g,cap,(cur.toList.set (k*5+j) (.int .i64 n)).toArray,rfl,hb,hb2.set _ _,hle,hm,by simpa using hsz,?_⟩
   rw[show (cur.toList.set (k*5+j) (Value.int .i64 n)).toArray.toList=cur.toList.set (k*5+j) (Value.int .i64 n) from rfl,List.take_set,htk]
 ·refine CellsG.turn (f:=f) hj (fun x cs hx hl=>?_) (hc.mono fun x _ cs hx=>hx.kept hT (fun b _ hb=>.inl (.inr (.inr (by rw[hb];rfl)))) (fun _ _ h=>h)) hk
  obtain ⟨sl,rfl,h1⟩:=hx
  exact hf _ x sl rfl ⟨sl,rfl,h1⟩
theorem zfm {B base mb vb:Nat} {cv:Value} {X:Nat→Prop} {s:MSt} (W:World) (h:MkIn W B base mb vb cv X s) (pb cb k:Nat) (x:Ins) (hx:s.code[k]?=some x) (hop:x.op≠15) (hlen:s.code.length≤1000000) (hp:BoxL W pb 74 [.pointer (some ⟨mb,0,none⟩)]) (hc:BoxL W cb 3 [.int .i64 k]) :
  Calls prog 104 #[.pointer (some ⟨pb,0,none⟩),.pointer (some ⟨cb,0,none⟩)] W fun e w'=>e=.returned (.tuple #[])∧MkGo B base mb vb cv cv X (s.setB k s.len) W w':=by
 have hk:=(List.getElem?_eq_some_iff.1 hx).1
 obtain ⟨g,cap,L,rfl,hg,h0,h2,h3⟩:=h.st.opened hx
 refine (zjM pb cb mb g s.code.length cap k s.regs x.op x.b (.map (some vb)) W L hp hc h.st.box hg h0 hop h3 hk hlen).mono ?_
 rintro e w' ⟨rfl,j,rfl⟩
 have hd:Below W.heap.size W (W.drewN j):=Below.drewN (Below.refl _ _) j
 have hS:=(h.st.below hd).patched (k:=k) (j:=3) (s.code.length:Int) (fun x=>{ x with b:=(s.code.length:Int) }) hk (by omega) rfl (fun R x sl hR hx=>by
  subst hR
  obtain ⟨sl',he,a1,a2,a3,a4,a5⟩:=hx
  exact ⟨sl,rfl,a1,a2,a3,⟨by show _≤(s.code.length:Int);omega,by show (s.code.length:Int)≤_;omega⟩,by simp only[List.cons.injEq,and_true,true_and] at he;subst he;exact a5⟩)
 have hT:Turned (SM mb vb (.slice (some ⟨g,0,none⟩) s.code.length cap)) W ((W.drewN j).setCell ⟨g,k*5+3,none⟩ (.int .i64 (s.code.length:Int))):=(Turned.of_below hd).next (Turned.set _ _ _ (.inr (.inr rfl)))
 exact ⟨rfl,⟨hS,h.b1,h.b2,h.b3,Nat.le_trans h.b4 hT.size,fun b hb=>Nat.lt_of_lt_of_le (h.bx b hb) hT.size⟩,hT,fun _ _ h=>h,hT.below h.low h.size⟩
theorem zjN {B base mb vb:Nat} {cv:Value} {X:Nat→Prop} {s:MSt} (W:World) (h:MkIn W B base mb vb cv X s) (pb cb k:Nat) (x:Ins) (hx:s.code[k]?=some x) (hop:x.op=15) (hlen:s.code.length≤1000000) (hp:BoxL W pb 74 [.pointer (some ⟨mb,0,none⟩)]) (hc:BoxL W cb 3 [.int .i64 k]) :
  Calls prog 104 #[.pointer (some ⟨pb,0,none⟩),.pointer (some ⟨cb,0,none⟩)] W fun e w'=>e=.returned (.tuple #[])∧MkGo B base mb vb cv cv X (s.setA k s.len) W w':=by
 have hk:=(List.getElem?_eq_some_iff.1 hx).1
 obtain ⟨g,cap,L,rfl,hg,h0,h2,h3⟩:=h.st.opened hx
 refine (zi1 pb cb mb g s.code.length cap k s.regs x.a (.map (some vb)) W L hp hc h.st.box hg (by rw[←hop];exact h0) h2 hk hlen).mono ?_
 rintro e w' ⟨rfl,j,rfl⟩
 have hd:Below W.heap.size W (W.drewN j):=Below.drewN (Below.refl _ _) j
 have hS:=(h.st.below hd).patched (k:=k) (j:=2) (s.code.length:Int) (fun x=>{ x with a:=(s.code.length:Int) }) hk (by omega) rfl (fun R x sl hR hx=>by
  subst hR
  obtain ⟨sl',he,a1,a2,a3,a4,a5⟩:=hx
  exact ⟨sl,rfl,a1,a2,⟨by show _≤(s.code.length:Int);omega,by show (s.code.length:Int)≤_;omega⟩,a4,by simp only[List.cons.injEq,and_true,true_and] at he;subst he;exact a5⟩)
 have hT:Turned (SM mb vb (.slice (some ⟨g,0,none⟩) s.code.length cap)) W ((W.drewN j).setCell ⟨g,k*5+2,none⟩ (.int .i64 (s.code.length:Int))):=(Turned.of_below hd).next (Turned.set _ _ _ (.inr (.inr rfl)))
 exact ⟨rfl,⟨hS,h.b1,h.b2,h.b3,Nat.le_trans h.b4 hT.size,fun b hb=>Nat.lt_of_lt_of_le (h.bx b hb) hT.size⟩,hT,fun _ _ h=>h,hT.below h.low h.size⟩
theorem MkS.boxApart {W:World} {base mb vb b:Nat} {cv:Value} {X:Nat→Prop} {s:MSt} {t:TypeId} {cs:List Value} (h:MkS W base mb vb cv X s) (hb:BoxL W b t cs) (h1:t≠77) (h2:t≠49):¬SM mb vb cv b:=fun hs=>by
 rcases hs with rfl | rfl | hs
 ·have e:=(show W.heap[b]?=_ from h.box).symm.trans hb
  simp only[Option.some.injEq,Obj.cells.injEq] at e
  exact h1 e.2.1.symm
 ·exact zbt h.vars hb rfl
 ·obtain ⟨xs,hr,_⟩:=h.row
  obtain ⟨cs',f,hc⟩:=zaF hr b hs
  have e:=hc.symm.trans hb
  simp only[Option.some.injEq,Obj.cells.injEq] at e
  exact h2 e.2.1.symm
theorem IntsM.go {B base mb vb:Nat} {cv cv' v:Value} {X:Nat→Prop} {s:MSt} {w w':World} {l:List Int} (h:IntsM w (fun b=>SM mb vb cv b∨X b) l v) (hg:MkGo B base mb vb cv cv' X s w w'):IntsM w' (fun b=>SM mb vb cv' b∨X b) l v:=h.kept hg.turned (fun _ _ h=>.inl h) (fun b hb h=>h.imp (hg.less b hb) id)
theorem zk5 {W:World} {b n:Nat} {f:Int→Int} (hown:MapVI W b n f) (hn:n<1000000000000) (k c:Int) (hk:I64 k) (hc:I64 c):∃w',(Instr.mapUpdate 75 (.map (some b)) (.int .i64 k) (.int .i64 c)).run prog W=.ok () w'∧MapVI w' b (n+1) (fun x=>if x=k then c else f x)∧W.grownBy w' (some b):=by
 obtain ⟨D,h1,h2,h3⟩:=hown
 obtain ⟨w2,hrun,g1,g2⟩:=h1.update zbJ underlying75 (by unfold maxLen;omega) (zbc hk) (plainElem_int underlying3 (zgR hc))
 exact ⟨w2,hrun,⟨_,g1,h2.put _ _,MapVI.put h2 h3 k c⟩,g2⟩
theorem MkIn.bound {W W':World} {B base mb vb:Nat} {cv:Value} {X:Nat→Prop} {s:MSt} (h:MkIn W B base mb vb cv X s) (v r:Int) (hm:MapVI W' vb (s.vars.length+1) (fun x=>if x=v then r else Mk.lkL s.vars x)) (hg:W.grownBy W' (some vb)):MkGo B base mb vb cv cv X (s.bind [v] [r]) W W':=by
 have hT:Turned (fun b=>b=vb) W W':=Turned.grown hg (fun b hb=>by simpa using hb.symm)
 have hS:Turned (SM mb vb cv) W W':=hT.wider fun b _ hb=>.inr (.inl hb)
 obtain ⟨xs,hr,hc⟩:=h.st.row
 refine ⟨⟨⟨hT.box h.st.box (fun e=>zbt h.st.vars h.st.box e),⟨xs,zaM hr (fun c hcc=>hT.block c (zan hr hcc) (fun e=>zbP h.st.vars hr hcc e)),hc.mono fun x _ cs hx=>hx.kept hT (fun b _ hb=>.inl (.inr (.inl hb))) (fun _ _ h=>h)⟩,?_⟩,h.b1,h.b2,h.b3,Nat.le_trans h.b4 hT.size,fun b hb=>Nat.lt_of_lt_of_le (h.bx b hb) hT.size⟩,hS,fun _ _ h=>h,hS.below h.low h.size⟩
 have e:(s.bind [v] [r]).vars=s.vars++[(v,r)]:=rfl
 rw[e,List.length_append,List.length_singleton]
 rw[show Mk.lkL (s.vars++[(v,r)])=fun x=>if x=v then r else Mk.lkL s.vars x from funext fun x=>Mk.lkL_snoc _ _ _ _]
 exact hm
theorem MkGo.box {B base mb vb b:Nat} {cv cv':Value} {X X':Nat→Prop} {s s':MSt} {w w':World} {t:TypeId} {cs:List Value} (h:MkGo B base mb vb cv cv' X s' w w') (hi:MkIn w B base mb vb cv X' s) (hb:BoxL w b t cs) (h1:t≠77) (h2:t≠49):BoxL w' b t cs:=h.turned.box hb (hi.st.boxApart hb h1 h2)
end
section
open Go Go.RowKit Mk
theorem zdW {B base mb vb:Nat} {cv:Value} {X:Nat→Prop} {s:MSt} (W:World) (h:MkIn W B base mb vb cv X s) (hr:Room s 1) :
  Calls prog 95 #[.pointer (some ⟨mb,0,none⟩)] W fun e w'=>e=.returned (.int .i64 s.regs)∧MkGo B base mb vb cv cv X s.fresh W w':=by
 refine (zgS mb cv _ s.regs W h.st.box hr.2.1 (by have:=hr.2.2.1;omega)).mono ?_
 rintro e w' ⟨rfl,rfl⟩
 have ht:Turned (SM mb vb cv) W (W.setCell ⟨mb,1,none⟩ (.int .i64 (s.regs+1))):=Turned.set _ _ _ (.inl rfl)
 exact ⟨rfl,⟨h.st.fresh,h.b1,h.b2,h.b3,Nat.le_trans h.b4 ht.size,fun b hb=>Nat.lt_of_lt_of_le (h.bx b hb) ht.size⟩,ht,fun _ _ h=>h,ht.below h.low h.size⟩
theorem zgU (x:Trm) (hx:IntoC false x):HadC x:=by
 intro c0 c1 c2 c3 B base mb vb cv X s nc nk fr sc W hv hm hw hroom
 have hroom2:=Room.mono hroom (k':=1) (by have:=x.all_pos;omega)
 obtain ⟨W1,hW1⟩:∃W1,W.alloc (.cells #[c0,c1,c2,c3] 27)=W1:=⟨_,rfl⟩
 have HB1:=zh (show Below W.heap.size W W1 from by rw[←hW1];exact Below.one W _)
 have HBX:=zh (show BoxL W1 W.heap.size 27 [c0,c1,c2,c3] from by rw[←hW1];exact BoxL.new rfl _ _)
 have HM:=zh (hm.keep HB1.out)
 have hsz:=hm.size
 have HV:=zh (TrmR.kept (HB1.out.mono hm.size) _ _ hv)
 have HW:=zh hW1
 have HX:=zh hx
 have HLT:=zh hm.st.lt
 obtain ⟨op,n,v,t⟩:=x
 have hsh:∃q r u q' r' u',c0=.int .i64 op∧c1=.int .i64 n∧c2=.slice q r u∧c3=.slice q' r' u'∧I64 n:=by
  obtain ⟨vs',ts',he,_,hn,hvs,hts⟩:=zas.1 hv
  simp only[List.cons.injEq,and_true] at he
  obtain ⟨rfl,rfl,rfl,rfl⟩:=he
  obtain ⟨q,r,u,rfl⟩:=hvs.form
  obtain ⟨q',r',u',rfl⟩:=hts.form
  exact ⟨_,_,_,_,_,_,rfl,rfl,rfl,rfl,hn⟩
 obtain ⟨ov,lv,cvv,ot,lt,ct,rfl,rfl,rfl,rfl,hn⟩:=hsh
 have x0:=HBX.out.cell 0 rfl
 have x1:=HBX.out.cell 1 rfl
 have x2:=HBX.out.cell 2 rfl
 have x3:=HBX.out.cell 3 rfl
 have xl:=HBX.out.lt
 by_cases h1:op=1
 ·subst h1
  have hpost:(Mk.had Mk.lkL (.mk 1 n v t) s)=(Mk.lkL s.vars n,s):=by simp[Mk.had,Mk.hadW,Trm.op,Trm.n]
  rw[hpost]
  clear hv hm hx hW1 hw hroom hpost
  go_enter func93,ntmps93
  go_upto_region 2 with fail
  rw[HW.out]
  have y2:=HM.out.st.box.cell 2 rfl
  have yl:=HM.out.st.box.lt
  have HD:=zh ((Below.refl W1.heap.size W1).drew)
  refine zab (Below W1.heap.size W1) (by kernel_rfl) (by kernel_rfl) HD.out ?_
  intro T0 _ WW HWW HWW2
  have z1:∀t,(WW t).cell? _=_:=fun t=>((HWW t).cell (p:=⟨W.heap.size,1,none⟩) xl).trans x1
  have z2:∀t,(WW t).cell? _=_:=fun t=>((HWW t).cell (p:=⟨mb,2,none⟩) yl).trans y2
  have zk:∀t,(Instr.lookup 75 (.map (some vb)) (.int .i64 n) false).run prog (WW t)=.ok (.int .i64 (Mk.lkL s.vars n)) (WW t):=fun t=>zbU (HM.out.st.vars.keep (HWW t)) n hn
  have HWH:=zh HWW
  clear HWW HWW2
  repeat (go_big_quiet_step (fail))
  refine wpQuiet_nil ?_
  intro t'
  have HBB:=zh (HWH.out t')
  clear x0 x1 x2 x3 xl z1 z2 zk y2 yl
  go_wp2_with fail
  go_ret
  exact ⟨rfl,cv,((MkGo.refl HM.out).after HBB.out).before HB1.out hsz⟩
 ·have f1:(op==1)=false:=by simpa using h1
  have hpost:(Mk.had Mk.lkL (.mk op n v t) s)=(s.regs,Mk.into Mk.lkL (.mk op n v t) s.regs false s.fresh):=if_neg h1
  rw[hpost]
  have HF:=zh (zdW W1 HM.out hroom2)
  have hro:=zh hroom
  have hall:=(Trm.mk op n v t).all_pos
  have hwf:=zh hw
  clear hv hm hx hW1 hw hroom hpost
  go_enter func93,ntmps93
  go_upto_region 3 with fail
  rw[HW.out]
  go_wp2_with fail
  refine HF.out.mono ?_
  rintro e w2 ⟨rfl,hg⟩
  have HG:=zh hg
  have HBX2:=zh (HG.out.turned.box HBX.out (fun hs=>Nat.lt_irrefl _ (HLT.out _ hs)))
  have HI:=zh (HX.out _ _ _ _ B base mb vb cv X s.fresh s.regs nc nk fr sc w2 (TrmR.kept HG.out.low _ _ HV.out) HG.out.inn hwf.out (Room.fresh (hro.out.mono (by omega))) ⟨hro.out.2.1,by have:=hro.out.2.2.1;omega⟩)
  clear x0 x1 x2 x3 xl hg
  have x0:=HBX2.out.cell 0 rfl
  have x1:=HBX2.out.cell 1 rfl
  have x2:=HBX2.out.cell 2 rfl
  have x3:=HBX2.out.cell 3 rfl
  have xl:=HBX2.out.lt
  go_wp2_with fail
  refine HI.out.mono ?_
  rintro e w3 ⟨rfl,cv',hg⟩
  have HG3:=zh ((HG.out.next hg).before HB1.out hsz)
  clear hg x0 x1 x2 x3 xl
  go_wp2_with fail
  go_ret
  exact ⟨rfl,_,HG3.out⟩
theorem TrmR.shape {W:World} {B:Nat} {x:Trm} {c0 c1 c2 c3:Value} (h:TrmR W B x [c0,c1,c2,c3]):∃q r u q' r' u',c0=.int .i64 x.op∧c1=.int .i64 x.n∧c2=.slice q r u∧c3=.slice q' r' u'∧I64 x.n:=by
 obtain ⟨op,n,v,t⟩:=x
 obtain ⟨vs',ts',he,_,hn,hvs,hts⟩:=zas.1 h
 simp only[List.cons.injEq,and_true] at he
 obtain ⟨rfl,rfl,rfl,rfl⟩:=he
 obtain ⟨q,r,u,rfl⟩:=hvs.form
 obtain ⟨q',r',u',rfl⟩:=hts.form
 exact ⟨_,_,_,_,_,_,rfl,rfl,rfl,rfl,hn⟩
theorem zcX (lk:List (Int × Int)→Int→Int):∀(a b:List Trm) (s:MSt),Mk.allT lk (a++b) s=((Mk.allT lk a s).1++(Mk.allT lk b (Mk.allT lk a s).2).1,(Mk.allT lk b (Mk.allT lk a s).2).2)
 | [],b,s=>by simp[Mk.allT]
 | x::a,b,s=>by
  rw[List.cons_append,Mk.allT,Mk.allT]
  simp only[zcX lk a b]
  rfl
theorem zbY (lk:List (Int × Int)→Int→Int) {l:List Trm} {j:Nat} {x:Trm} (h:l[j]?=some x) (s:MSt):Mk.allT lk (l.take (j+1)) s=((Mk.allT lk (l.take j) s).1++[(Mk.had lk x (Mk.allT lk (l.take j) s).2).1],(Mk.had lk x (Mk.allT lk (l.take j) s).2).2):=by
 rw[List.take_add_one,h,zcX]
 simp[Mk.allT,Mk.had]
theorem zae (lk:List (Int × Int)→Int→Int):∀(l:List Trm) (s:MSt),(Mk.allT lk l s).1.length=l.length
 | [],s=>by simp[Mk.allT]
 | x::l,s=>by rw[Mk.allT];simp[zae lk l]
theorem zls (l:List Trm) (hl:∀x∈l,HadC x):AllC l:=by
 intro sl B base mb vb cv X s nc nk fr sc W hv hm hw hroom
 obtain ⟨o,len,cap,rfl⟩:=SlC.form hv
 obtain ⟨hlen,hcap,hmax⟩:=SlC.lens hv
 have HV:=zh hv
 have HL:=zh hlen
 have HM:=zh hm
 have HLT:=zh hm.st.lt
 have HH:=zh hl
 have HWF:=zh hw
 have HRO:=zh hroom
 have hshort:l.length≤300000:=by have:=Trm.allL_length l;have:=hroom.1;omega
 have hsz:=hm.size
 have HB:=zh (fun (j:Nat)=>show ∀x∈(Mk.allT Mk.lkL (l.take j) s).1,I64 x from fun x hx=>by
  have h1:=(Room.allT (k:=0) Mk.lkL_ok (l.take j) s (hroom.mono (by have:=zaQ l j;omega))).2 x hx
  exact ⟨by omega,by omega⟩)
 clear hv hlen hm hl hw hroom
 go_enter func66,ntmps66
 go_wp2_with fail
 go_loopg [10,5] len (fun g i ov wr=>∃(j:Nat) (cv':Value),g=len-j∧i=.int .i64 j∧j≤len∧Hid (MkGo B base mb vb cv cv' (fun b=>X b∨ov.ownBlock=some b) (Mk.allT Mk.lkL (l.take j) s).2 W wr)∧Hid (wr.ownsRow W.heap.size 3 1 ov (Mk.allT Mk.lkL (l.take j) s).1.length ((Mk.allT Mk.lkL (l.take j) s).1.map (Value.int .i64))))
 case atStart=>exact ⟨0,cv,rfl,rfl,by omega,zh (by simpa[Mk.allT] using MkGo.refl (HM.out.turn (X':=fun b=>X b∨(Value.slice none 0 0).ownBlock=some b) (fun b _ h=>h.elim id (fun h=>by simp[Value.ownBlock] at h)) (fun b h=>h.elim (HM.out.bx b) (fun h=>by simp[Value.ownBlock] at h)))),zh (by simpa[Mk.allT] using World.ownsRow_nil _ _ _ _)⟩
 case round=>
  obtain ⟨j,cv',rfl,rfl,hj,HG,HO⟩:=hrel
  by_cases hjl:j<len
  ·obtain ⟨x,hx⟩:∃x,l[j]?=some x:=⟨_,List.getElem?_eq_getElem (by rw[←HL.out];exact hjl)⟩
   obtain ⟨b,off,cs,ho,_,hcl,hcell,hr⟩:=SlC.at HV.out HG.out.low hx
   subst ho
   match cs,hcl with
   | [c0,c1,c2,c3],_=>
    have e0:=hcell 0 _ rfl
    have e1:=hcell 1 _ rfl
    have e2:=hcell 2 _ rfl
    have e3:=hcell 3 _ rfl
    simp only[Nat.add_zero] at e0
    have hbl:=zac e0
    obtain ⟨qa,qb,qc,qd,qe,qf,rfl,rfl,rfl,rfl,_⟩:=TrmR.shape hr
    have hrm:=Room.allT (k:=6*x.all) Mk.lkL_ok (l.take j) s (HRO.out.mono (by have:=za2 hx;have:=zaQ l (j+1);omega))
    obtain ⟨W1,hW1⟩:∃W1,wr.alloc (.cells #[.int .i64 x.op,.int .i64 x.n,.slice qa qb qc,.slice qd qe qf] 27)=W1:=⟨_,rfl⟩
    have HW1:=zh hW1
    have HB1:=zh (show Below wr.heap.size wr W1 from by rw[←hW1];exact Below.one wr _)
    have HC:=zh (HH.out x (List.mem_of_getElem? hx) _ _ _ _ B base mb vb cv' _ (Mk.allT Mk.lkL (l.take j) s).2 nc nk fr sc W1 (TrmR.kept (HG.out.low.trans (HB1.out.mono HG.out.inn.size)) _ _ hr) (HG.out.inn.keep HB1.out) (HWF.out x (List.mem_of_getElem? hx)) (hrm.1.mono (by omega)))
    have HX:=zh hx
    have HTK:=zh (zbY Mk.lkL hx s)
    have hjb:=zh (HB.out (j+1))
    obtain ⟨q,hq⟩:∃q,Mk.had Mk.lkL x (Mk.allT Mk.lkL (l.take j) s).2=q:=⟨_,rfl⟩
    have HLEN:=zh (show (Mk.allT Mk.lkL (l.take j) s).1.length=j from by rw[zae,List.length_take];have:=HL.out;omega)
    rw[hq] at HC HTK
    clear hr hrm hx hq hcell hW1
    go_wp2_with fail
    rw[HW1.out]
    refine HC.out.mono ?_
    rintro e w2 ⟨rfl,cv2,hg2⟩
    have HG2:=zh (HG.out.next (hg2.before HB1.out HG.out.inn.size))
    have hq64:I64 q.1:=hjb.out _ (by rw[HTK.out];simp)
    have HQ:=zh hq64
    have HO2:=zh (zaM (zam HO.out HB1.out) (fun c hc=>hg2.turned.block c (zan (zam HO.out HB1.out) hc) ((HG.out.inn.keep HB1.out).st.apart (zam HO.out HB1.out) c hc)))
    have hw2:W.heap.size≤w2.heap.size:=HG2.out.turned.size
    have hlen2:(Mk.allT Mk.lkL (l.take j) s).1.length≤300000:=by have:=HLEN.out;have:=HL.out;omega
    obtain ⟨i0,hi0,hz0,hz1,hz2⟩:=info_parts zbu
    clear hg2 hq64 e0 e1 e2 e3 hbl
    go_wp2_with (at_builtin;refine wpList_append_lies _ rfl (.tmp 14) (.tmp 18) 24 rfl W.heap.size 3 i0 (.int .i64 0) 1 8 underlying24 hi0 hz0 hz1 hz2 rfl (by decide) u5 (Mk.allT Mk.lkL (l.take j) s).1.length _ rfl (HO2.out.alloc _) ⟨w2.heap.size,0,none⟩ 1 1 [.int .i64 q.1] rfl rfl (zaS w2 _ _) (by intro u hu;simp only[List.mem_cons,List.not_mem_nil,or_false] at hu;subst hu;rfl) (by decide) (by unfold maxLen;omega) (by omega) (by simp;omega) (w2.heap.size+1) (by simp) ?_)
    intro g cap w3 hown hgrow hlie hglt
    have HT3:Turned (fun b=>u5.ownBlock=some b) w2 w3:=(Turned.of_below (Below.one w2 _)).next (Turned.grown hgrow (fun b h=>h))
    have HTT:Turned (SM mb vb cv) W w3:=HG2.out.turned.trans HT3 (fun b hb h=>by have:=zao HO2.out h;omega)
    have HGN:=zh (show MkGo B base mb vb cv cv2 (fun b=>X b∨(Value.slice (some ⟨g,0,none⟩) ((Mk.allT Mk.lkL (l.take j) s).1.length+1) cap).ownBlock=some b) (Mk.allT Mk.lkL (l.take (j+1)) s).2 W w3 from by
     rw[HTK.out]
     refine ⟨⟨HG2.out.inn.st.keep HT3 (fun b _ h=>⟨.inr h,HG2.out.inn.st.apart HO2.out b h⟩) (fun b hb h=>?_),HG2.out.inn.b1,HG2.out.inn.b2,HG2.out.inn.b3,Nat.le_trans HG2.out.inn.b4 HT3.size,fun b h=>?_⟩,HTT,HG2.out.less,HTT.below HM.out.low hsz⟩
     ·refine h.imp id fun e=>?_
      have e:g=b:=by simpa[Value.ownBlock] using e
      subst e
      rcases hlie with h | h
      ·exact h
      ·omega
     ·rcases h with h | h
      ·exact Nat.lt_of_lt_of_le (HG2.out.inn.bx b (.inl h)) HT3.size
      ·have e:g=b:=by simpa[Value.ownBlock] using h
       subst e
       exact hglt)
    have HON:=zh (show w3.ownsRow W.heap.size 3 1 (.slice (some ⟨g,0,none⟩) ((Mk.allT Mk.lkL (l.take j) s).1.length+1) cap) (Mk.allT Mk.lkL (l.take (j+1)) s).1.length ((Mk.allT Mk.lkL (l.take (j+1)) s).1.map (Value.int .i64)) from by
     rw[HTK.out]
     simpa using hown)
    clear hown hgrow hlie hglt HT3 HTT
    go_wp2_with fail
    go_roundg (len-(j+1))
    case measure=>omega
    case rel=>exact ⟨j+1,cv2,rfl,by go_num,by omega,HGN,HON⟩
  ·obtain rfl:j=len:=by omega
   have HE:=zh (show l.take j=l from List.take_of_length_le (by rw[←HL.out];exact Nat.le_refl _))
   have hg:=HG.out
   have ho:=HO.out
   have hb:=HB.out j
   rw[HE.out] at hg ho hb
   have HG2:=zh (show MkGo B base mb vb cv cv' X (Mk.allT Mk.lkL l s).2 W wr from ⟨hg.inn.turn (fun b _ h=>.inl h) (fun b h=>hg.inn.bx b (.inl h)),hg.turned,hg.less,hg.low⟩)
   have HIN:=zh (show IntsM wr (fun b=>SM mb vb cv' b∨X b) (Mk.allT Mk.lkL l s).1 u5 from IntsM.of_row ho hb (fun b h hs=>by
    rcases hs with hs | hs
    ·exact hg.inn.st.apart ho b h hs
    ·have:=HM.out.bx b hs
     have:=zao ho h
     omega))
   clear hg ho hb HG HO
   go_wp2_with fail
   go_ret
   exact ⟨_,rfl,cv',HG2.out,HIN.out⟩
end
end Go.Proofs.YtdcajmeeeoofgaaGreatDoor
