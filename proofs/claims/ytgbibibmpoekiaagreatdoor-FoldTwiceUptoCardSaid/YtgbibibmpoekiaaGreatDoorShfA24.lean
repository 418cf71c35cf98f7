/-
  What the proofs lean on: Does3, CkD, FdB.
-/
import Derived.Deep.Cut
import Derived.Deep.DeepCutAuto
import Derived.Test.YtgbibibmpoekiaaGreatDoorShfA06
import Derived.Test.YtgbibibmpoekiaaGreatDoorShfA08
import Derived.Test.YtgbibibmpoekiaaGreatDoorShfA10
import Derived.Test.YtgbibibmpoekiaaGreatDoorShfA11
import Derived.Test.YtgbibibmpoekiaaGreatDoorShfA19
import Derived.Test.YtgbibibmpoekiaaGreatDoorShfA20
import Derived.Test.YtgbibibmpoekiaaGreatDoorShfA21
import Derived.Test.YtgbibibmpoekiaaGreatDoorShfA22
import Derived.Test.YtgbibibmpoekiaaGreatDoorShfA23
set_option maxRecDepth 100000
set_option maxHeartbeats 16000000
namespace Go.Proofs.YtgbibibmpoekiaaGreatDoor
section
open Go.RowKit
theorem takes_len (n:Int) (m len:Nat) (h:Prims.takes n len=true) (h1:(Prims.facts n).least=m) (h2:(Prims.facts n).most=m):len=m:=by
 unfold Prims.takes at h
 rw[h1,h2] at h
 simp only[Bool.and_eq_true,Bool.or_eq_true,decide_eq_true_eq] at h
 omega
theorem does_any (n:Int) (l:List Dat) (sl:Value) (B:Nat) (w:World) (hv:RepS w B l sl) (hB:B≤w.heap.size) (hr:∀x∈l,Dat.right x 0=true) (ht:Prims.takes n l.length=true) (hh:Prims.has n=true) (hf:(Prims.facts n).folds=true) :
  Calls Tryz.prog 100 #[.int .i64 n,sl] w (EndPost B (Prims.does n l) w):=by
 obtain ⟨i,rfl⟩:∃i:Nat,n=i:=⟨n.toNat,by simp[Prims.has] at hh;omega⟩
 have hi:i<31:=by simp[Prims.has] at hh;omega
 match i,hi with
 | 0,_=>exact does_0 l sl B w hv hB
 | 1,_=>exact does_1 l sl B w hv hB
 | 2,_=>exact does_2 l sl B w hv hB
 | 3,_=>exact does_3 l sl B w hv hB
 | 4,_=>exact does_4 l sl B w hv hB hr (takes_len 4 2 l.length ht rfl rfl)
 | 5,_=>exact does_5 l sl B w hv hB hr (takes_len 5 2 l.length ht rfl rfl)
 | 6,_=>exact does_6 l sl B w hv hB hr (takes_len 6 2 l.length ht rfl rfl)
 | 7,_=>exact does_7 l sl B w hv hB hr (takes_len 7 2 l.length ht rfl rfl)
 | 8,_=>exact does_8 l sl B w hv hB hr (takes_len 8 1 l.length ht rfl rfl)
 | 9,_=>exact does_9 l sl B w hv hB hr (takes_len 9 1 l.length ht rfl rfl)
 | 10,_=>exact does_10 l sl B w hv hB hr (takes_len 10 1 l.length ht rfl rfl)
 | 11,_=>exact does_11 l sl B w hv hB hr (takes_len 11 1 l.length ht rfl rfl)
 | 12,_=>exact does_12 l sl B w hv hB hr (takes_len 12 1 l.length ht rfl rfl)
 | 13,_=>exact does_13 l sl B w hv hB hr (takes_len 13 1 l.length ht rfl rfl)
 | 14,_=>exact does_14 l sl B w hv hB hr (takes_len 14 1 l.length ht rfl rfl)
 | 15,_=>exact does_15 l sl B w hv hB hr (takes_len 15 1 l.length ht rfl rfl)
 | 16,_=>exact does_16 l sl B w hv hB hr (takes_len 16 1 l.length ht rfl rfl)
 | 17,_=>exact absurd hf (by decide)
 | 18,_=>exact does_18 l sl B w hv hB hr (takes_len 18 1 l.length ht rfl rfl)
 | 19,_=>exact does_19 l sl B w hv hB hr (takes_len 19 1 l.length ht rfl rfl)
 | 20,_=>exact absurd hf (by decide)
 | 21,_=>exact absurd hf (by decide)
 | 22,_=>exact does_22 l sl B w hv hB hr (takes_len 22 2 l.length ht rfl rfl)
 | 23,_=>exact does_23 l sl B w hv hB hr (takes_len 23 1 l.length ht rfl rfl)
 | 24,_=>exact does_24 l sl B w hv hB hr (takes_len 24 1 l.length ht rfl rfl)
 | 25,_=>exact (by
   have h0:=takes_len 25 0 l.length ht rfl rfl
   have hl:l=[]:=List.length_eq_zero_iff.1 h0
   subst hl
   exact does_25 sl B w hv hB)
 | 26,_=>exact absurd hf (by decide)
 | 27,_=>exact absurd hf (by decide)
 | 28,_=>exact absurd hf (by decide)
 | 29,_=>exact absurd hf (by decide)
 | 30,_=>exact absurd hf (by decide)
 | i+31,h=>exact absurd h (by omega)
end
section
open Go Go.RowKit
structure RBox (W:World) (h cb sb:Nat) (op n:Int) (vs ts:Value) (deep:Int):Prop where
 c:BoxL W h 62 [.pointer (some ⟨cb,0,none⟩)]
 t:BoxL W (h+1) 26 [.int .i64 op,.int .i64 n,vs,ts]
 s:BoxL W (h+1+1) 63 [.map (some sb)]
 d:BoxL W (h+1+1+1) 3 [.int .i64 deep]
theorem RBox.turned {S:Nat→Prop} {A B:World} {h cb sb:Nat} {op n:Int} {vs ts:Value} {deep:Int} (H:RBox A h cb sb op n vs ts deep) (ht:Turned S A B) (hS:∀b,S b→b<h):RBox B h cb sb op n vs ts deep:=
 ⟨ht.box H.c fun hs=>by have:=hS _ hs;omega,ht.box H.t fun hs=>by have:=hS _ hs;omega,ht.box H.s fun hs=>by have:=hS _ hs;omega,ht.box H.d fun hs=>by have:=hS _ hs;omega⟩
theorem RBox.new (W:World) (cb sb:Nat) (op n:Int) (vs ts:Value) (deep:Int):RBox ((((W.alloc (.cells #[.pointer (some ⟨cb,0,none⟩)] 62)).alloc (.cells #[.int .i64 op,.int .i64 n,vs,ts] 26)).alloc (.cells #[.map (some sb)] 63)).alloc (.cells #[.int .i64 deep] 3)) W.heap.size cb sb op n vs ts deep:=
 ⟨(((BoxL.new rfl _ _).alloc _).alloc _).alloc _,((BoxL.new (by simp) _ _).alloc _).alloc _,(BoxL.new (by simp) _ _).alloc _,BoxL.new (by simp) _ _⟩
theorem below_four (W:World) (a b c d:Obj):Below W.heap.size W ((((W.alloc a).alloc b).alloc c).alloc d):=(Below.one W a).trans (((Below.one _ b).trans (((Below.one _ c).trans ((Below.one _ d).mono (by simp))).mono (by simp))).mono (by simp))
theorem ChkS.sized {W:World} {cb bb sb:Nat} {nc nk:Int} {fr:Bool} {size:Int} {l:List Int} {sc:Int→Bool} (h:ChkS W cb bb sb nc nk fr size l sc) (s:Int):ChkS (W.setCell ⟨cb,4,none⟩ (.int .i64 s)) cb bb sb nc nk fr s l sc:=
 ⟨h.box.set 4 _,h.bound.same (setCell_heap_other _ _ _ fun e=>map_box_ne h.bound h.box e.symm),h.scope.same (setCell_heap_other _ _ _ fun e=>map_box_ne h.scope h.box e.symm),h.new,h.ne⟩
theorem cright_no (op n:Int) (ov ot:Option Addr) (lv cv lt ct:Nat) (cb bb sb:Nat) (nc nk size:Int) (fr:Bool) (l:List Int) (sc:Int→Bool) (deep:Int) (W:World) (hc:ChkS W cb bb sb nc nk fr size l sc)
  (h0:0≤size) (h1:size+1≤20000) (h2:0≤deep) (h3:deep≤400) (f t le:Int) (any binds is:Bool) (qf qn:Bool) (hft:is=true→f≤2) (hft2:is=true→2≤t)
  (HSH:∀W,Calls Tryz.prog 61 #[.int .i64 op] W fun e w'=>e=.returned (.tuple #[.agg #[.int .i64 f,.int .i64 t,.int .i64 le,.bool any,.bool binds],.bool is])∧Below W.heap.size W w')
  (HFT:is=true→∀W,Calls Tryz.prog 62 #[.agg #[.int .i64 f,.int .i64 t,.int .i64 le,.bool any,.bool binds],.agg #[.int .i64 op,.int .i64 n,.slice ov lv cv,.slice ot lt ct]] W fun e w'=>e=.returned (.bool qf)∧Below W.heap.size W w')
  (HNU:is=true→qf=true→∀W,ChkS W cb bb sb nc nk fr (size+1) l sc→Calls Tryz.prog 63 #[.pointer (some ⟨cb,0,none⟩),.agg #[.int .i64 op,.int .i64 n,.slice ov lv cv,.slice ot lt ct],.map (some sb)] W fun e w'=>e=.returned (.bool qn)∧Below W.heap.size W w')
  (hno:(is&&(qf&&qn))=false) :
  Calls Tryz.prog 34 #[.pointer (some ⟨cb,0,none⟩),.agg #[.int .i64 op,.int .i64 n,.slice ov lv cv,.slice ot lt ct],.map (some sb),.int .i64 deep] W (ChkPost cb bb sb nc nk fr false (fun _=>False) W):=by
 have hmf:∀(fn:Fn) (first cap:Array Value) (w:World),(Instr.makeFunc fn first cap).run Tryz.prog w=.ok (.func fn first cap) w:=fun _ _ _ _=>rfl
 obtain ⟨W1,hW1⟩:∃W1,((((W.alloc (.cells #[.pointer (some ⟨cb,0,none⟩)] 62)).alloc (.cells #[.int .i64 op,.int .i64 n,.slice ov lv cv,.slice ot lt ct] 26)).alloc (.cells #[.map (some sb)] 63)).alloc (.cells #[.int .i64 deep] 3)).setCell ⟨cb,4,none⟩ (.int .i64 (size+1))=W1:=⟨_,rfl⟩
 have hbelow:=below_four W (.cells #[.pointer (some ⟨cb,0,none⟩)] 62) (.cells #[.int .i64 op,.int .i64 n,.slice ov lv cv,.slice ot lt ct] 26) (.cells #[.map (some sb)] 63) (.cells #[.int .i64 deep] 3)
 have HW:=Lib.hid hW1
 have HT1:=Lib.hid (show Turned (S3 cb bb sb) W W1 from by rw[←hW1];exact (Turned.of_below hbelow).next (Turned.set _ _ _ (.inl rfl)))
 have HC1:=Lib.hid (show ChkS W1 cb bb sb nc nk fr (size+1) l sc from by rw[←hW1];exact (hc.keep hbelow).sized _)
 have HX1:=Lib.hid (show RBox W1 W.heap.size cb sb op n (.slice ov lv cv) (.slice ot lt ct) deep from by
  rw[←hW1]
  exact (RBox.new W cb sb op n (.slice ov lv cv) (.slice ot lt ct) deep).turned (Turned.set (S:=fun b=>b=cb) _ _ _ rfl) (fun b hb=>by rw[hb];exact hc.box.lt))
 have c4:=(hc.box.keep hbelow).cell 4 rfl
 have cz:=(hc.box.keep hbelow).free 4
 have cl:=hc.box.lt
 have HC:=Lib.hid hc
 have hft:=Lib.hid hft
 have hft2:=Lib.hid hft2
 have HSH:=Lib.hid HSH
 have HFT:=Lib.hid HFT
 have HNU:=Lib.hid HNU
 clear hW1 hbelow hc
 go_enter_defers Tryz.func34,Tryz.ntmps34
 go_upto_region 2 with fail
 rw[HW.out]
 have t0:=HX1.out.t.cell 0 rfl
 have tl:=HX1.out.t.lt
 clear c4 cz cl
 go_wp2_with fail
 refine (HSH.out _).mono ?_
 rintro e w1 ⟨rfl,hb1⟩
 have HB1:=Lib.hid hb1
 clear hb1 HSH t0 tl
 go_upto_region 3 with fail
 obtain ⟨W3,hW3⟩:∃W3,w1.alloc (.cells #[.int .i64 f,.int .i64 t,.int .i64 le,.bool any,.bool binds] 87)=W3:=⟨_,rfl⟩
 have HB3:=Lib.hid (show Below W1.heap.size W1 W3 from by rw[←hW3];exact Below.next HB1.out (Below.one w1 _))
 have B9:=Lib.hid (show BoxL W3 w1.heap.size 87 [.int .i64 f,.int .i64 t,.int .i64 le,.bool any,.bool binds] from by rw[←hW3];exact BoxL.new rfl _ _)
 rw[hW3]
 clear hW3
 have HX3:=Lib.hid (HX1.out.turned (Turned.of_below (S:=fun _=>False) HB3.out) (fun _ h=>h.elim))
 have HC3:=Lib.hid (HC1.out.keep HB3.out)
 have HD:=Lib.hid ((Below.refl W3.heap.size W3).drew)
 cases is with
 | false=>
  refine wp_region_quiet_all (Below W3.heap.size W3) (by kernel_rfl) (by kernel_rfl) HD.out ?_
  intro T0 _ WW HWW HWW2
  have x0:∀t,(WW t).cell? _=_:=fun t=>((HWW t).cell (p:=⟨W.heap.size,0,none⟩) HX3.out.c.lt).trans (HX3.out.c.cell 0 rfl)
  have x1:∀t,(WW t).cell? _=_:=fun t=>((HWW t).cell (p:=⟨W.heap.size+1,0,none⟩) HX3.out.t.lt).trans (HX3.out.t.cell 0 rfl)
  have x2:∀t,(WW t).cell? _=_:=fun t=>((HWW t).cell (p:=⟨W.heap.size+1,1,none⟩) HX3.out.t.lt).trans (HX3.out.t.cell 1 rfl)
  have x3:∀t,(WW t).cell? _=_:=fun t=>((HWW t).cell (p:=⟨W.heap.size+1,2,none⟩) HX3.out.t.lt).trans (HX3.out.t.cell 2 rfl)
  have x4:∀t,(WW t).cell? _=_:=fun t=>((HWW t).cell (p:=⟨W.heap.size+1,3,none⟩) HX3.out.t.lt).trans (HX3.out.t.cell 3 rfl)
  have x5:∀t,(WW t).cell? _=_:=fun t=>((HWW t).cell (p:=⟨W.heap.size+1+1,0,none⟩) HX3.out.s.lt).trans (HX3.out.s.cell 0 rfl)
  have x6:∀t,(WW t).cell? _=_:=fun t=>((HWW t).cell (p:=⟨W.heap.size+1+1+1,0,none⟩) HX3.out.d.lt).trans (HX3.out.d.cell 0 rfl)
  have y0:∀t,(WW t).cell? _=_:=fun t=>((HWW t).cell (p:=⟨cb,0,none⟩) HC3.out.box.lt).trans (HC3.out.box.cell 0 rfl)
  have y4:∀t,(WW t).cell? _=_:=fun t=>((HWW t).cell (p:=⟨cb,4,none⟩) HC3.out.box.lt).trans (HC3.out.box.cell 4 rfl)
  have z0:∀t,(WW t).cell? _=_:=fun t=>((HWW t).cell (p:=⟨w1.heap.size,0,none⟩) B9.out.lt).trans (B9.out.cell 0 rfl)
  have z1:∀t,(WW t).cell? _=_:=fun t=>((HWW t).cell (p:=⟨w1.heap.size,1,none⟩) B9.out.lt).trans (B9.out.cell 1 rfl)
  have z2:∀t,(WW t).cell? _=_:=fun t=>((HWW t).cell (p:=⟨w1.heap.size,2,none⟩) B9.out.lt).trans (B9.out.cell 2 rfl)
  have z3:∀t,(WW t).cell? _=_:=fun t=>((HWW t).cell (p:=⟨w1.heap.size,3,none⟩) B9.out.lt).trans (B9.out.cell 3 rfl)
  have z4:∀t,(WW t).cell? _=_:=fun t=>((HWW t).cell (p:=⟨w1.heap.size,4,none⟩) B9.out.lt).trans (B9.out.cell 4 rfl)
  have HWH:=Lib.hid HWW
  have HW2:=Lib.hid HWW2
  clear HWW HWW2
  repeat (go_big_quiet_step (fail))
  refine wpQuiet_nil ?_
  intro t
  have HBB:=Lib.hid (HWH.out t)
  clear x0 x1 x2 x3 x4 x5 x6 y0 y4 z0 z1 z2 z3 z4
  go_wp2_with fail
  refine ⟨_,results_tmp rfl _ _ _,rfl,HT1.out.next (Turned.of_below (Below.next HB3.out HBB.out)),fun h=>by simp at h,fun _=>(HC3.out.keep HBB.out).bad⟩
 | true=>
  have f1:=hft.out rfl
  have f2:=hft2.out rfl
  have g0:decide (400<deep)=false:=decide_eq_false (by omega)
  have g1:decide (20000<size+1)=false:=decide_eq_false (by omega)
  have g2:decide (2<f)=false:=decide_eq_false (by omega)
  have g3:decide (t<2)=false:=decide_eq_false (by omega)
  have HF:=Lib.hid (HFT.out rfl)
  cases qf with
  | false=>
   refine wp_region_quiet_all (Below W3.heap.size W3) (by kernel_rfl) (by kernel_rfl) HD.out ?_
   intro T0 _ WW HWW HWW2
   have x0:∀t,(WW t).cell? _=_:=fun t=>((HWW t).cell (p:=⟨W.heap.size,0,none⟩) HX3.out.c.lt).trans (HX3.out.c.cell 0 rfl)
   have x1:∀t,(WW t).cell? _=_:=fun t=>((HWW t).cell (p:=⟨W.heap.size+1,0,none⟩) HX3.out.t.lt).trans (HX3.out.t.cell 0 rfl)
   have x2:∀t,(WW t).cell? _=_:=fun t=>((HWW t).cell (p:=⟨W.heap.size+1,1,none⟩) HX3.out.t.lt).trans (HX3.out.t.cell 1 rfl)
   have x3:∀t,(WW t).cell? _=_:=fun t=>((HWW t).cell (p:=⟨W.heap.size+1,2,none⟩) HX3.out.t.lt).trans (HX3.out.t.cell 2 rfl)
   have x4:∀t,(WW t).cell? _=_:=fun t=>((HWW t).cell (p:=⟨W.heap.size+1,3,none⟩) HX3.out.t.lt).trans (HX3.out.t.cell 3 rfl)
   have x5:∀t,(WW t).cell? _=_:=fun t=>((HWW t).cell (p:=⟨W.heap.size+1+1,0,none⟩) HX3.out.s.lt).trans (HX3.out.s.cell 0 rfl)
   have x6:∀t,(WW t).cell? _=_:=fun t=>((HWW t).cell (p:=⟨W.heap.size+1+1+1,0,none⟩) HX3.out.d.lt).trans (HX3.out.d.cell 0 rfl)
   have y0:∀t,(WW t).cell? _=_:=fun t=>((HWW t).cell (p:=⟨cb,0,none⟩) HC3.out.box.lt).trans (HC3.out.box.cell 0 rfl)
   have y4:∀t,(WW t).cell? _=_:=fun t=>((HWW t).cell (p:=⟨cb,4,none⟩) HC3.out.box.lt).trans (HC3.out.box.cell 4 rfl)
   have z0:∀t,(WW t).cell? _=_:=fun t=>((HWW t).cell (p:=⟨w1.heap.size,0,none⟩) B9.out.lt).trans (B9.out.cell 0 rfl)
   have z1:∀t,(WW t).cell? _=_:=fun t=>((HWW t).cell (p:=⟨w1.heap.size,1,none⟩) B9.out.lt).trans (B9.out.cell 1 rfl)
   have z2:∀t,(WW t).cell? _=_:=fun t=>((HWW t).cell (p:=⟨w1.heap.size,2,none⟩) B9.out.lt).trans (B9.out.cell 2 rfl)
   have z3:∀t,(WW t).cell? _=_:=fun t=>((HWW t).cell (p:=⟨w1.heap.size,3,none⟩) B9.out.lt).trans (B9.out.cell 3 rfl)
   have z4:∀t,(WW t).cell? _=_:=fun t=>((HWW t).cell (p:=⟨w1.heap.size,4,none⟩) B9.out.lt).trans (B9.out.cell 4 rfl)
   have HWH:=Lib.hid HWW
   have HW2:=Lib.hid HWW2
   clear HWW HWW2
   have HC0:Hid (∀t',Calls Tryz.prog 62 #[.agg #[.int .i64 f,.int .i64 t,.int .i64 le,.bool any,.bool binds],.agg #[.int .i64 op,.int .i64 n,.slice ov lv cv,.slice ot lt ct]] (WW t') fun e w'=>e=.returned (.bool false)∧∃t'',w'=WW t''):=Lib.hid (fun t'=>calls_class HW2.out ((HF.out (WW t')).mono fun e w' h=>⟨h.1,Below.next (HWH.out t') h.2⟩))
   repeat (go_big_quiet_step (first | (go_at_call 62;exact HC0.out _)))
   refine wpQuiet_nil ?_
   intro t
   have HBB:=Lib.hid (HWH.out t)
   clear x0 x1 x2 x3 x4 x5 x6 y0 y4 z0 z1 z2 z3 z4
   go_wp2_with fail
   refine ⟨_,results_tmp rfl _ _ _,rfl,HT1.out.next (Turned.of_below (Below.next HB3.out HBB.out)),fun h=>by simp at h,fun _=>(HC3.out.keep HBB.out).bad⟩
  | true=>
   obtain rfl:qn=false:=by simpa using hno
   have HN:=Lib.hid (HNU.out rfl rfl)
   refine wp_region_quiet_all (Below W3.heap.size W3) (by kernel_rfl) (by kernel_rfl) HD.out ?_
   intro T0 _ WW HWW HWW2
   have x0:∀t,(WW t).cell? _=_:=fun t=>((HWW t).cell (p:=⟨W.heap.size,0,none⟩) HX3.out.c.lt).trans (HX3.out.c.cell 0 rfl)
   have x1:∀t,(WW t).cell? _=_:=fun t=>((HWW t).cell (p:=⟨W.heap.size+1,0,none⟩) HX3.out.t.lt).trans (HX3.out.t.cell 0 rfl)
   have x2:∀t,(WW t).cell? _=_:=fun t=>((HWW t).cell (p:=⟨W.heap.size+1,1,none⟩) HX3.out.t.lt).trans (HX3.out.t.cell 1 rfl)
   have x3:∀t,(WW t).cell? _=_:=fun t=>((HWW t).cell (p:=⟨W.heap.size+1,2,none⟩) HX3.out.t.lt).trans (HX3.out.t.cell 2 rfl)
   have x4:∀t,(WW t).cell? _=_:=fun t=>((HWW t).cell (p:=⟨W.heap.size+1,3,none⟩) HX3.out.t.lt).trans (HX3.out.t.cell 3 rfl)
   have x5:∀t,(WW t).cell? _=_:=fun t=>((HWW t).cell (p:=⟨W.heap.size+1+1,0,none⟩) HX3.out.s.lt).trans (HX3.out.s.cell 0 rfl)
   have x6:∀t,(WW t).cell? _=_:=fun t=>((HWW t).cell (p:=⟨W.heap.size+1+1+1,0,none⟩) HX3.out.d.lt).trans (HX3.out.d.cell 0 rfl)
   have y0:∀t,(WW t).cell? _=_:=fun t=>((HWW t).cell (p:=⟨cb,0,none⟩) HC3.out.box.lt).trans (HC3.out.box.cell 0 rfl)
   have y4:∀t,(WW t).cell? _=_:=fun t=>((HWW t).cell (p:=⟨cb,4,none⟩) HC3.out.box.lt).trans (HC3.out.box.cell 4 rfl)
   have z0:∀t,(WW t).cell? _=_:=fun t=>((HWW t).cell (p:=⟨w1.heap.size,0,none⟩) B9.out.lt).trans (B9.out.cell 0 rfl)
   have z1:∀t,(WW t).cell? _=_:=fun t=>((HWW t).cell (p:=⟨w1.heap.size,1,none⟩) B9.out.lt).trans (B9.out.cell 1 rfl)
   have z2:∀t,(WW t).cell? _=_:=fun t=>((HWW t).cell (p:=⟨w1.heap.size,2,none⟩) B9.out.lt).trans (B9.out.cell 2 rfl)
   have z3:∀t,(WW t).cell? _=_:=fun t=>((HWW t).cell (p:=⟨w1.heap.size,3,none⟩) B9.out.lt).trans (B9.out.cell 3 rfl)
   have z4:∀t,(WW t).cell? _=_:=fun t=>((HWW t).cell (p:=⟨w1.heap.size,4,none⟩) B9.out.lt).trans (B9.out.cell 4 rfl)
   have HWH:=Lib.hid HWW
   have HW2:=Lib.hid HWW2
   clear HWW HWW2
   have HC0:Hid (∀t',Calls Tryz.prog 62 #[.agg #[.int .i64 f,.int .i64 t,.int .i64 le,.bool any,.bool binds],.agg #[.int .i64 op,.int .i64 n,.slice ov lv cv,.slice ot lt ct]] (WW t') fun e w'=>e=.returned (.bool true)∧∃t'',w'=WW t''):=Lib.hid (fun t'=>calls_class HW2.out ((HF.out (WW t')).mono fun e w' h=>⟨h.1,Below.next (HWH.out t') h.2⟩))
   have HC1:Hid (∀t',Calls Tryz.prog 63 #[.pointer (some ⟨cb,0,none⟩),.agg #[.int .i64 op,.int .i64 n,.slice ov lv cv,.slice ot lt ct],.map (some sb)] (WW t') fun e w'=>e=.returned (.bool false)∧∃t'',w'=WW t''):=Lib.hid (fun t'=>calls_class HW2.out ((HN.out (WW t') (HC3.out.keep (HWH.out t'))).mono fun e w' h=>⟨h.1,Below.next (HWH.out t') h.2⟩))
   repeat (go_big_quiet_step (first | (go_at_call 62;exact HC0.out _) | (go_at_call 63;exact HC1.out _)))
   refine wpQuiet_nil ?_
   intro t
   have HBB:=Lib.hid (HWH.out t)
   clear x0 x1 x2 x3 x4 x5 x6 y0 y4 z0 z1 z2 z3 z4
   go_wp2_with fail
   refine ⟨_,results_tmp rfl _ _ _,rfl,HT1.out.next (Turned.of_below (Below.next HB3.out HBB.out)),fun h=>by simp at h,fun _=>(HC3.out.keep HBB.out).bad⟩
end
section
open Go Go.RowKit
namespace Fd
open Trm
theorem sim_shift {Q:Int→Int→Prop} (r:Int→Int):∀(x:Trm) (nc nk:Int) (fr:Bool) (sc:Int→Bool),wf nc nk fr x sc=true→(∀n,0≤n→n<nc→Q n n)→Sim Q r x (shift r x):=by
 intro x
 induction x using Trm.ind with
 | h o n v t ih=>
  intro nc nk fr sc h hQ
  obtain ⟨h0,h1,h2,h3⟩:=wf_open h
  have hex:=wf_each h3
  rw[shift]
  refine Sim.close rfl (fun e=>?_) (fun _=>rfl) rfl ?_
  ·replace e:o=0:=e
   subst e
   simp only[numberB,if_true,Bool.and_eq_true,decide_eq_true_eq] at h2
   show Q n (if (0:Int)=1∨(0:Int)=2∨(0:Int)=14 then r n else n)
   rw[if_neg (by decide)]
   exact hQ n h2.1 h2.2
  ·show SimL Q r t (shiftL r t)
   have key:∀l:List Trm,(∀y∈l,Sim Q r y (shift r y))→SimL Q r l (shiftL r l):=fun l=>by
    induction l with
    | nil=>intro _;rw[shiftL,SimL]
    | cons y l ihl=>intro hy;rw[shiftL];exact SimL.cons (hy y (by simp)) (ihl fun z hz=>hy z (List.mem_cons_of_mem _ hz))
   exact key t fun y hy=>by
    obtain ⟨s,hs⟩:=hex y hy
    exact ih y hy nc nk fr s hs hQ
theorem sim_same {r:Int→Int}:∀x y:Trm,Sim (fun n m=>n=m) r x y→y=shift r x:=by
 intro x
 induction x using Trm.ind with
 | h o n v t ih=>
  intro y h
  obtain ⟨o',n',v',t'⟩:=y
  obtain ⟨h0,h1,h2,h3,h4⟩:=h.open
  replace h0:o'=o:=h0
  replace h3:v'=v.map r:=h3
  subst h0 h3
  have key:∀l m:List Trm,(∀y∈l,∀z,Sim (fun n m=>n=m) r y z→z=shift r y)→SimL (fun n m=>n=m) r l m→m=shiftL r l:=fun l=>by
   induction l with
   | nil=>intro m _ h;rw[SimL] at h;subst h;rfl
   | cons y l ihl=>
    intro m hy h
    obtain ⟨z,k,rfl,g1,g2⟩:=h.uncons
    rw[shiftL,hy y (by simp) z g1,ihl k (fun z hz=>hy z (List.mem_cons_of_mem _ hz)) g2]
  rw[shift,key t t' ih h4]
  congr 1
  by_cases ho:o'=0
  ·have:n=n':=h1 ho
   rw[if_neg (by omega)]
   exact this.symm
  ·exact h2 ho
variable {F : Int → List Dat → Option Dat}
theorem term_shift {r:Int→Int} (hr:∀a b,r a=r b→a=b) {x:Trm} {cs:List Dat} {nk:Int} {fr:Bool} {sc:Int→Bool} (h:wf cs.length nk fr x sc=true):term F (shift r x) cs=(shift r (term F x cs).1,(term F x cs).2):=by
 have hQ:QOk (fun cs cs':List Dat=>cs=cs') (fun cs cs' n m=>cs=cs'∧n=m):=
  ⟨fun h=>by rw[h.1,h.2],fun a h=>⟨by rw[h.1],h.2⟩,fun a h=>by rw[h],fun d h=>⟨by rw[h],by rw[h]⟩⟩
 obtain ⟨a,e1,e2,e3⟩:=sim_term (F:=F) hQ hr x (shift r x) cs cs rfl (sim_shift r x _ _ _ _ h fun n _ _=>⟨rfl,rfl⟩)
 have e4:=sim_same _ _ (sim_mono (fun _ _ h=>h.2) _ _ e3)
 exact Prod.ext e4 (e2.trans e1.symm)
end Fd
end
end Go.Proofs.YtgbibibmpoekiaaGreatDoor
