/-
  What the proofs lean on: Does2E, CkB.
-/
import Derived.Deep.LoopGhost
import Derived.Deep.Cut
import Derived.Deep.CutRange
import Derived.Test.YtgbibibmpoekiaaGreatDoorShfA11
import Derived.Test.YtgbibibmpoekiaaGreatDoorShfA16
import Derived.Test.YtgbibibmpoekiaaGreatDoorShfA18
set_option maxRecDepth 100000
set_option maxHeartbeats 16000000
namespace Go.Proofs.YtgbibibmpoekiaaGreatDoor
section
open Go.RowKit
def ClsA (w:World) (c0 c1 c2 c3 c4:Value) (W:World):Prop:=Below w.heap.size w W∧Box5 W w.heap.size 45 (.int .i64 0) (.int .i64 0) (.int .i64 0) (.string ⟨#[]⟩) (.slice none 0 0)∧Box5 W (w.heap.size+1) 45 c0 c1 c2 c3 c4∧w.heap.size+2≤W.heap.size
theorem ClsA.next {w W W':World} {c0 c1 c2 c3 c4:Value} (h:ClsA w c0 c1 c2 c3 c4 W) (hb:Below W.heap.size W W'):ClsA w c0 c1 c2 c3 c4 W':=
 ⟨Below.next h.1 hb,(hb.block _ h.2.1.lt).trans h.2.1,(hb.block _ h.2.2.1.lt).trans h.2.2.1,Nat.le_trans h.2.2.2 hb.size⟩
theorem ClsA.new (w:World) (c0 c1 c2 c3 c4:Value):ClsA w c0 c1 c2 c3 c4 ((w.alloc (.cells #[.int .i64 0,.int .i64 0,.int .i64 0,.string ⟨#[]⟩,.slice none 0 0] 45)).alloc (.cells #[c0,c1,c2,c3,c4] 45)):=
 ⟨((Below.refl _ _).alloc (Nat.le_refl _) _).alloc (by simp) _,(Box5.new w 45 (.int .i64 0) (.int .i64 0) (.int .i64 0) (.string ⟨#[]⟩) (.slice none 0 0)).alloc _,by have:=Box5.new (w.alloc (.cells #[.int .i64 0,.int .i64 0,.int .i64 0,.string ⟨#[]⟩,.slice none 0 0] 45)) 45 c0 c1 c2 c3 c4;rwa[World.size_alloc] at this,by simp⟩
theorem ClsA.drew {w W:World} {c0 c1 c2 c3 c4:Value} (h:ClsA w c0 c1 c2 c3 c4 W):ClsA w c0 c1 c2 c3 c4 W.drew:=h.next (Below.refl _ _).drew
theorem truth_to (b:Bool) (q:Int) (h:(if b then (1:Int) else 0)=q) (w:World):Calls Tryz.prog 115 #[.bool b] w fun e w'=>e=.returned (leafV 1 q 0)∧Below w.heap.size w w':=by
 rw[←h];exact truth_any b w
theorem dsame_to (x y:Dat) (v u:Value) (B:Nat) (w:World) (r:Bool) (hx:Dat.right x 0=true) (hy:Dat.right y 0=true) (hr:Dat.alike x y=r) (hv:RepD w B x v) (hu:RepD w B y u) (hB:B≤w.heap.size) :
  Calls Tryz.prog 116 #[v,u] w fun e w'=>e=.returned (.bool r)∧Below w.heap.size w w':=by
 have:=same_any x y v u B w hv hu hB
 rwa[hx,hy,hr,Bool.true_and,Bool.true_and] at this
theorem psame_to (x y:Dat) (v u:Value) (B:Nat) (w:World) (r:Bool) (hx:Dat.right x 0=true) (hy:Dat.right y 0=true) (hr:Prims.eq x y=r) (hv:RepD w B x v) (hu:RepD w B y u) (hB:B≤w.heap.size) :
  Calls Tryz.prog 118 #[v,u] w fun e w'=>e=.returned (.bool r)∧Below w.heap.size w w':=by
 have:=psame_any x y v u B w hx hy hv hu hB
 rwa[hr] at this
theorem calls_drewN {f:FuncId} {args:Array Value} {w:World} {v:Value} (h:Calls Tryz.prog f args w fun e w'=>e=.returned v∧∃k,w'=w.drewN k) :
  Calls Tryz.prog f args w fun e w'=>e=.returned v∧Below w.heap.size w w':=
 h.mono fun _ _ ⟨he,k,hk⟩=>⟨he,by rw[hk];exact Below.selfN _ _⟩
end
section
open Go.RowKit
theorem does_4 (l:List Dat) (sl:Value) (B:Nat) (w:World) (hv:RepS w B l sl) (hB:B≤w.heap.size) (hr:∀x∈l,Dat.right x 0=true) (hl:l.length=2) :
  Calls Tryz.prog 100 #[.int .i64 4,sl] w (EndPost B (Prims.does 4 l) w):=by
 obtain ⟨x,y,rfl⟩:∃x y,l=[x,y]:=by
  match l,hl with
  | [x,y],_=>exact ⟨x,y,rfl⟩
 have hrx:=hr x (by simp)
 have hry:=hr y (by simp)
 obtain ⟨o,len,cap,rfl,hlen,hcap,hmax⟩:=slice_of hv
 obtain rfl:len=2:=hlen
 obtain ⟨b,off,k,n,d,s,l',o',len',cap',ho,hx,e0,e1,e2,e3,e4,er⟩:=part_atS hv (Below.refl _ _) (j:=0) rfl
 subst ho hx
 obtain ⟨b2,off2,k2,n2,d2,s2,l2,o2,len2,cap2,ho2,hy,f0,f1,f2,f3,f4,fr⟩:=part_atS hv (Below.refl _ _) (j:=1) rfl
 simp only[Option.some.injEq,Addr.mk.injEq,and_true] at ho2
 obtain ⟨rfl,rfl⟩:=ho2
 subst hy
 simp only[Nat.one_mul,Nat.add_assoc,Nat.reduceAdd] at f0 f1 f2 f3 f4
 have FR:=Lib.hid fr
 simp only[Nat.zero_mul,Nat.add_zero] at e0 e1 e2 e3 e4
 have hbl:=cell_lt e0
 have ER:=Lib.hid er
 have HRX:=Lib.hid hrx
 have HRY:=Lib.hid hry
 obtain ⟨R,hR⟩:∃R,Prims.does 4 [Dat.mk k n d s l',Dat.mk k2 n2 d2 s2 l2]=R:=⟨_,rfl⟩
 rw[hR]
 have HK:=Lib.hid (fun X Y=>((Below.refl w.heap.size w).alloc (Nat.le_refl _) X).alloc (by simp) Y)
 have HV:=Lib.hid hv
 clear hv er hrx hr hl fr hry
 by_cases hk:k≠0
 ·have k0:(k != 0)=true:=by simpa using hk
  clear HRY FR
  have HR:=Lib.hid (show (Prims.zeroD,(1:Int))=R by rw[←hR];simp[Prims.does,hk,Dat.kind])
  clear hR HV ER HRX
  go_enter Tryz.func100,Tryz.ntmps100
  go_wp2_with fail
  rw[←HR.out]
  exact bodyPost_ret (v:=.tuple #[leafV 0 0 0,.int .i64 1]) (by simp[results,Tryz.results100,go_sem,leafV]) rfl (endPost_leaf (by omega) (by omega) (by omega) rfl (HK.out _ _))
 obtain rfl:k=0:=by omega
 by_cases hk2:k2≠0
 ·have k0:(k2 != 0)=true:=by simpa using hk2
  clear HRY FR
  have HR:=Lib.hid (show (Prims.zeroD,(1:Int))=R by rw[←hR];simp[Prims.does,hk2,Dat.kind])
  clear hR HV ER HRX
  go_enter Tryz.func100,Tryz.ntmps100
  go_wp2_with fail
  rw[←HR.out]
  exact bodyPost_ret (v:=.tuple #[leafV 0 0 0,.int .i64 1]) (by simp[results,Tryz.results100,go_sem,leafV]) rfl (endPost_leaf (by omega) (by omega) (by omega) rfl (HK.out _ _))
 obtain rfl:k2=0:=by omega
 obtain ⟨r,hr⟩:∃r,Dat.alike (.mk 0 n d s l') (.mk 0 n2 d2 s2 l2)=r:=⟨_,rfl⟩
 have HRR:=Lib.hid hr
 obtain ⟨rq,hrq⟩:∃rq:Int,(if r then (1:Int) else 0)=rq:=⟨_,rfl⟩
 have hrq0:0≤rq∧rq≤1:=by rw[←hrq];split<;>omega
 have HRQ:=Lib.hid hrq
 have HR:=Lib.hid (show (Dat.mk 1 rq 0 ⟨#[]⟩ [],(0:Int))=R by rw[←hrq];show (Prims.truth r,(0:Int))=R;rw[←hR,←hr];simp[Prims.does,Dat.kind])
 clear hR hr hrq
 go_enter Tryz.func100,Tryz.ntmps100
 have HN:=Lib.hid (ClsA.new w (.int .i64 0) (.int .i64 n) (.int .i64 d) (.string s) (.slice o' len' cap')).drew
 go_wp2_with fail
 refine wp_region_quiet_class (ClsA w (.int .i64 0) (.int .i64 n) (.int .i64 d) (.string s) (.slice o' len' cap')) 6 (by kernel_rfl) (by kernel_rfl) HN.out ?_
 intro T0 _ W HW HW2
 have g0:∀t,(W t).cell? _=_:=fun t=>(HW t).2.2.1.cells.1
 have g1:∀t,(W t).cell? _=_:=fun t=>(HW t).2.2.1.cells.2.1
 have g2:∀t,(W t).cell? _=_:=fun t=>(HW t).2.2.1.cells.2.2.1
 have g3:∀t,(W t).cell? _=_:=fun t=>(HW t).2.2.1.cells.2.2.2.1
 have g4:∀t,(W t).cell? _=_:=fun t=>(HW t).2.2.1.cells.2.2.2.2
 have j0:∀t,(W t).cell? _=_:=fun t=>((HW t).1.cell (p:=⟨b,off+5,none⟩) hbl).trans f0
 have j1:∀t,(W t).cell? _=_:=fun t=>((HW t).1.cell (p:=⟨b,off+6,none⟩) hbl).trans f1
 have j2:∀t,(W t).cell? _=_:=fun t=>((HW t).1.cell (p:=⟨b,off+7,none⟩) hbl).trans f2
 have j3:∀t,(W t).cell? _=_:=fun t=>((HW t).1.cell (p:=⟨b,off+8,none⟩) hbl).trans f3
 have j4:∀t,(W t).cell? _=_:=fun t=>((HW t).1.cell (p:=⟨b,off+9,none⟩) hbl).trans f4
 have HC0:Hid (∀t,Calls Tryz.prog 116 #[.agg #[.int .i64 0,.int .i64 n,.int .i64 d,.string s,.slice o' len' cap'],.agg #[.int .i64 0,.int .i64 n2,.int .i64 d2,.string s2,.slice o2 len2 cap2]] (W t) fun e w'=>e=.returned (.bool r)∧∃t',w'=W t'):=Lib.hid (fun t=>(dsame_to (.mk 0 n d s l') (.mk 0 n2 d2 s2 l2) _ _ B (W t) r HRX.out HRY.out HRR.out (ER.out.kept (Below.mono (HW t).1 hB)) (FR.out.kept (Below.mono (HW t).1 hB)) (Nat.le_trans hB (HW t).1.size)).mono fun e w' h=>⟨h.1,HW2 _ ((HW t).next h.2)⟩)
 have HC1:Hid (∀t,Calls Tryz.prog 115 #[.bool r] (W t) fun e w'=>e=.returned (.agg #[.int .i64 1,.int .i64 rq,.int .i64 0,.string ⟨#[]⟩,.slice none 0 0])∧∃t',w'=W t'):=Lib.hid (fun t=>(truth_to r rq HRQ.out (W t)).mono fun e w' h=>⟨h.1,HW2 _ ((HW t).next h.2)⟩)
 have HWH:=Lib.hid HW
 clear HW HW2
 simp only[List.take_succ_cons,List.take_zero,List.drop_succ_cons,List.drop_zero]
 repeat (go_big_quiet_step (first | (go_at_call 116;exact HC0.out _) | (go_at_call 115;exact HC1.out _)))
 refine wpQuiet_nil ?_
 intro t
 have hbox:=(HWH.out t).2.1
 obtain ⟨q0,q1,q2,q3,q4⟩:=hbox.cells
 obtain ⟨z0,z1,z2,z3,z4⟩:=hbox.free
 have hlt:=hbox.lt
 obtain ⟨r0,r1,r2,r3,r4⟩:=(hbox.set (.int .i64 1) (.int .i64 rq) (.int .i64 0) (.string ⟨#[]⟩) (.slice none 0 0)).cells
 have HBF:=Lib.hid ((HWH.out t).1.trans (set5_below (W t) w.heap.size w.heap.size (.int .i64 1) (.int .i64 rq) (.int .i64 0) (.string ⟨#[]⟩) (.slice none 0 0) (Nat.le_refl _)))
 clear g0 g1 g2 g3 g4
 go_wp2_with fail
 rw[←HR.out]
 exact bodyPost_ret (v:=.tuple #[leafV 1 rq 0,.int .i64 0]) (by simp[results,Tryz.results100,go_sem,leafV,r0,r1,r2,r3,r4]) rfl (endPost_leaf (by omega) (by skip<;>omega) (by omega) rfl HBF.out)
theorem does_5 (l:List Dat) (sl:Value) (B:Nat) (w:World) (hv:RepS w B l sl) (_hB:B≤w.heap.size) (hr:∀x∈l,Dat.right x 0=true) (hl:l.length=2) :
  Calls Tryz.prog 100 #[.int .i64 5,sl] w (EndPost B (Prims.does 5 l) w):=by
 obtain ⟨x,y,rfl⟩:∃x y,l=[x,y]:=by
  match l,hl with
  | [x,y],_=>exact ⟨x,y,rfl⟩
 have hrx:=hr x (by simp)
 have hry:=hr y (by simp)
 obtain ⟨o,len,cap,rfl,hlen,hcap,hmax⟩:=slice_of hv
 obtain rfl:len=2:=hlen
 obtain ⟨b,off,k,n,d,s,l',o',len',cap',ho,hx,e0,e1,e2,e3,e4,er⟩:=part_atS hv (Below.refl _ _) (j:=0) rfl
 subst ho hx
 obtain ⟨b2,off2,k2,n2,d2,s2,l2,o2,len2,cap2,ho2,hy,f0,f1,f2,f3,f4,fr⟩:=part_atS hv (Below.refl _ _) (j:=1) rfl
 simp only[Option.some.injEq,Addr.mk.injEq,and_true] at ho2
 obtain ⟨rfl,rfl⟩:=ho2
 subst hy
 simp only[Nat.one_mul,Nat.add_assoc,Nat.reduceAdd] at f0 f1 f2 f3 f4
 have FR:=Lib.hid fr
 simp only[Nat.zero_mul,Nat.add_zero] at e0 e1 e2 e3 e4
 have hbl:=cell_lt e0
 have ER:=Lib.hid er
 have HRX:=Lib.hid hrx
 have HRY:=Lib.hid hry
 obtain ⟨R,hR⟩:∃R,Prims.does 5 [Dat.mk k n d s l',Dat.mk k2 n2 d2 s2 l2]=R:=⟨_,rfl⟩
 rw[hR]
 have HK:=Lib.hid (fun X Y=>((Below.refl w.heap.size w).alloc (Nat.le_refl _) X).alloc (by simp) Y)
 have HV:=Lib.hid hv
 clear hv er hrx hr hl fr hry
 by_cases hk:k≠0
 ·have k0:(k != 0)=true:=by simpa using hk
  clear HRY FR
  have HR:=Lib.hid (show (Prims.zeroD,(1:Int))=R by rw[←hR];simp[Prims.does,hk,Dat.kind])
  clear hR HV ER HRX
  go_enter Tryz.func100,Tryz.ntmps100
  go_wp2_with fail
  rw[←HR.out]
  exact bodyPost_ret (v:=.tuple #[leafV 0 0 0,.int .i64 1]) (by simp[results,Tryz.results100,go_sem,leafV]) rfl (endPost_leaf (by omega) (by omega) (by omega) rfl (HK.out _ _))
 obtain rfl:k=0:=by omega
 by_cases hk2:k2≠0
 ·have k0:(k2 != 0)=true:=by simpa using hk2
  clear HRY FR
  have HR:=Lib.hid (show (Prims.zeroD,(1:Int))=R by rw[←hR];simp[Prims.does,hk2,Dat.kind])
  clear hR HV ER HRX
  go_enter Tryz.func100,Tryz.ntmps100
  go_wp2_with fail
  rw[←HR.out]
  exact bodyPost_ret (v:=.tuple #[leafV 0 0 0,.int .i64 1]) (by simp[results,Tryz.results100,go_sem,leafV]) rfl (endPost_leaf (by omega) (by omega) (by omega) rfl (HK.out _ _))
 obtain rfl:k2=0:=by omega
 obtain ⟨_,_,_,bn,bd,_⟩:=ER.out.open
 obtain ⟨_,_,_,bn2,bd2,_⟩:=FR.out.open
 obtain ⟨r,hr⟩:∃r,Num.less n d n2 d2=r:=⟨_,rfl⟩
 have HRR:=Lib.hid hr
 obtain ⟨rq,hrq⟩:∃rq:Int,(if r then (1:Int) else 0)=rq:=⟨_,rfl⟩
 have hrq0:0≤rq∧rq≤1:=by rw[←hrq];split<;>omega
 have HRQ:=Lib.hid hrq
 have HR:=Lib.hid (show (Dat.mk 1 rq 0 ⟨#[]⟩ [],(0:Int))=R by rw[←hrq];show (Prims.truth r,(0:Int))=R;rw[←hR,←hr];simp[Prims.does,Dat.kind,Dat.n,Dat.d])
 clear hR hr hrq
 go_enter Tryz.func100,Tryz.ntmps100
 have HN:=Lib.hid (ClsA.new w (.int .i64 0) (.int .i64 n) (.int .i64 d) (.string s) (.slice o' len' cap')).drew
 go_wp2_with fail
 refine wp_region_quiet_class (ClsA w (.int .i64 0) (.int .i64 n) (.int .i64 d) (.string s) (.slice o' len' cap')) 14 (by kernel_rfl) (by kernel_rfl) HN.out ?_
 intro T0 _ W HW HW2
 have g0:∀t,(W t).cell? _=_:=fun t=>(HW t).2.2.1.cells.1
 have g1:∀t,(W t).cell? _=_:=fun t=>(HW t).2.2.1.cells.2.1
 have g2:∀t,(W t).cell? _=_:=fun t=>(HW t).2.2.1.cells.2.2.1
 have g3:∀t,(W t).cell? _=_:=fun t=>(HW t).2.2.1.cells.2.2.2.1
 have g4:∀t,(W t).cell? _=_:=fun t=>(HW t).2.2.1.cells.2.2.2.2
 have j0:∀t,(W t).cell? _=_:=fun t=>((HW t).1.cell (p:=⟨b,off+5,none⟩) hbl).trans f0
 have j1:∀t,(W t).cell? _=_:=fun t=>((HW t).1.cell (p:=⟨b,off+6,none⟩) hbl).trans f1
 have j2:∀t,(W t).cell? _=_:=fun t=>((HW t).1.cell (p:=⟨b,off+7,none⟩) hbl).trans f2
 have j3:∀t,(W t).cell? _=_:=fun t=>((HW t).1.cell (p:=⟨b,off+8,none⟩) hbl).trans f3
 have j4:∀t,(W t).cell? _=_:=fun t=>((HW t).1.cell (p:=⟨b,off+9,none⟩) hbl).trans f4
 have HC0:Hid (∀t,Calls Tryz.prog 117 #[.int .i64 n,.int .i64 d,.int .i64 n2,.int .i64 d2] (W t) fun e w'=>e=.returned (.bool r)∧∃t',w'=W t'):=Lib.hid (fun t=>(calls_drewN (less_to n d n2 d2 r HRR.out bn.1 bn.2 bd.1 bd.2 bn2.1 bn2.2 bd2.1 bd2.2 (W t))).mono fun e w' h=>⟨h.1,HW2 _ ((HW t).next h.2)⟩)
 have HC1:Hid (∀t,Calls Tryz.prog 115 #[.bool r] (W t) fun e w'=>e=.returned (.agg #[.int .i64 1,.int .i64 rq,.int .i64 0,.string ⟨#[]⟩,.slice none 0 0])∧∃t',w'=W t'):=Lib.hid (fun t=>(truth_to r rq HRQ.out (W t)).mono fun e w' h=>⟨h.1,HW2 _ ((HW t).next h.2)⟩)
 have HWH:=Lib.hid HW
 clear HW HW2
 simp only[List.take_succ_cons,List.take_zero,List.drop_succ_cons,List.drop_zero]
 repeat (go_big_quiet_step (first | (go_at_call 117;exact HC0.out _) | (go_at_call 115;exact HC1.out _)))
 refine wpQuiet_nil ?_
 intro t
 have hbox:=(HWH.out t).2.1
 obtain ⟨q0,q1,q2,q3,q4⟩:=hbox.cells
 obtain ⟨z0,z1,z2,z3,z4⟩:=hbox.free
 have hlt:=hbox.lt
 obtain ⟨r0,r1,r2,r3,r4⟩:=(hbox.set (.int .i64 1) (.int .i64 rq) (.int .i64 0) (.string ⟨#[]⟩) (.slice none 0 0)).cells
 have HBF:=Lib.hid ((HWH.out t).1.trans (set5_below (W t) w.heap.size w.heap.size (.int .i64 1) (.int .i64 rq) (.int .i64 0) (.string ⟨#[]⟩) (.slice none 0 0) (Nat.le_refl _)))
 clear g0 g1 g2 g3 g4
 go_wp2_with fail
 rw[←HR.out]
 exact bodyPost_ret (v:=.tuple #[leafV 1 rq 0,.int .i64 0]) (by simp[results,Tryz.results100,go_sem,leafV,r0,r1,r2,r3,r4]) rfl (endPost_leaf (by omega) (by skip<;>omega) (by omega) rfl HBF.out)
theorem does_6 (l:List Dat) (sl:Value) (B:Nat) (w:World) (hv:RepS w B l sl) (hB:B≤w.heap.size) (hr:∀x∈l,Dat.right x 0=true) (hl:l.length=2) :
  Calls Tryz.prog 100 #[.int .i64 6,sl] w (EndPost B (Prims.does 6 l) w):=by
 obtain ⟨x,y,rfl⟩:∃x y,l=[x,y]:=by
  match l,hl with
  | [x,y],_=>exact ⟨x,y,rfl⟩
 have hrx:=hr x (by simp)
 have hry:=hr y (by simp)
 obtain ⟨o,len,cap,rfl,hlen,hcap,hmax⟩:=slice_of hv
 obtain rfl:len=2:=hlen
 obtain ⟨b,off,k,n,d,s,l',o',len',cap',ho,hx,e0,e1,e2,e3,e4,er⟩:=part_atS hv (Below.refl _ _) (j:=0) rfl
 subst ho hx
 obtain ⟨b2,off2,k2,n2,d2,s2,l2,o2,len2,cap2,ho2,hy,f0,f1,f2,f3,f4,fr⟩:=part_atS hv (Below.refl _ _) (j:=1) rfl
 simp only[Option.some.injEq,Addr.mk.injEq,and_true] at ho2
 obtain ⟨rfl,rfl⟩:=ho2
 subst hy
 simp only[Nat.one_mul,Nat.add_assoc,Nat.reduceAdd] at f0 f1 f2 f3 f4
 have FR:=Lib.hid fr
 simp only[Nat.zero_mul,Nat.add_zero] at e0 e1 e2 e3 e4
 have hbl:=cell_lt e0
 have ER:=Lib.hid er
 have HRX:=Lib.hid hrx
 have HRY:=Lib.hid hry
 obtain ⟨R,hR⟩:∃R,Prims.does 6 [Dat.mk k n d s l',Dat.mk k2 n2 d2 s2 l2]=R:=⟨_,rfl⟩
 rw[hR]
 have HK:=Lib.hid (fun X Y=>((Below.refl w.heap.size w).alloc (Nat.le_refl _) X).alloc (by simp) Y)
 have HV:=Lib.hid hv
 clear hv er hrx hr hl fr hry
 obtain ⟨r,hr⟩:∃r,Prims.eq (.mk k n d s l') (.mk k2 n2 d2 s2 l2)=r:=⟨_,rfl⟩
 have HRR:=Lib.hid hr
 obtain ⟨rq,hrq⟩:∃rq:Int,(if r then (1:Int) else 0)=rq:=⟨_,rfl⟩
 have hrq0:0≤rq∧rq≤1:=by rw[←hrq];split<;>omega
 have HRQ:=Lib.hid hrq
 have HR:=Lib.hid (show (Dat.mk 1 rq 0 ⟨#[]⟩ [],(0:Int))=R by rw[←hrq];show (Prims.truth r,(0:Int))=R;rw[←hR,←hr];simp[Prims.does])
 clear hR hr hrq
 go_enter Tryz.func100,Tryz.ntmps100
 have HN:=Lib.hid (ClsA.new w (.int .i64 k) (.int .i64 n) (.int .i64 d) (.string s) (.slice o' len' cap')).drew
 go_wp2_with fail
 refine wp_region_quiet_class (ClsA w (.int .i64 k) (.int .i64 n) (.int .i64 d) (.string s) (.slice o' len' cap')) 6 (by kernel_rfl) (by kernel_rfl) HN.out ?_
 intro T0 _ W HW HW2
 have g0:∀t,(W t).cell? _=_:=fun t=>(HW t).2.2.1.cells.1
 have g1:∀t,(W t).cell? _=_:=fun t=>(HW t).2.2.1.cells.2.1
 have g2:∀t,(W t).cell? _=_:=fun t=>(HW t).2.2.1.cells.2.2.1
 have g3:∀t,(W t).cell? _=_:=fun t=>(HW t).2.2.1.cells.2.2.2.1
 have g4:∀t,(W t).cell? _=_:=fun t=>(HW t).2.2.1.cells.2.2.2.2
 have j0:∀t,(W t).cell? _=_:=fun t=>((HW t).1.cell (p:=⟨b,off+5,none⟩) hbl).trans f0
 have j1:∀t,(W t).cell? _=_:=fun t=>((HW t).1.cell (p:=⟨b,off+6,none⟩) hbl).trans f1
 have j2:∀t,(W t).cell? _=_:=fun t=>((HW t).1.cell (p:=⟨b,off+7,none⟩) hbl).trans f2
 have j3:∀t,(W t).cell? _=_:=fun t=>((HW t).1.cell (p:=⟨b,off+8,none⟩) hbl).trans f3
 have j4:∀t,(W t).cell? _=_:=fun t=>((HW t).1.cell (p:=⟨b,off+9,none⟩) hbl).trans f4
 have HC0:Hid (∀t,Calls Tryz.prog 118 #[.agg #[.int .i64 k,.int .i64 n,.int .i64 d,.string s,.slice o' len' cap'],.agg #[.int .i64 k2,.int .i64 n2,.int .i64 d2,.string s2,.slice o2 len2 cap2]] (W t) fun e w'=>e=.returned (.bool r)∧∃t',w'=W t'):=Lib.hid (fun t=>(psame_to (.mk k n d s l') (.mk k2 n2 d2 s2 l2) _ _ B (W t) r HRX.out HRY.out HRR.out (ER.out.kept (Below.mono (HW t).1 hB)) (FR.out.kept (Below.mono (HW t).1 hB)) (Nat.le_trans hB (HW t).1.size)).mono fun e w' h=>⟨h.1,HW2 _ ((HW t).next h.2)⟩)
 have HC1:Hid (∀t,Calls Tryz.prog 115 #[.bool r] (W t) fun e w'=>e=.returned (.agg #[.int .i64 1,.int .i64 rq,.int .i64 0,.string ⟨#[]⟩,.slice none 0 0])∧∃t',w'=W t'):=Lib.hid (fun t=>(truth_to r rq HRQ.out (W t)).mono fun e w' h=>⟨h.1,HW2 _ ((HW t).next h.2)⟩)
 have HWH:=Lib.hid HW
 clear HW HW2
 simp only[List.take_succ_cons,List.take_zero,List.drop_succ_cons,List.drop_zero]
 repeat (go_big_quiet_step (first | (go_at_call 118;exact HC0.out _) | (go_at_call 115;exact HC1.out _)))
 refine wpQuiet_nil ?_
 intro t
 have hbox:=(HWH.out t).2.1
 obtain ⟨q0,q1,q2,q3,q4⟩:=hbox.cells
 obtain ⟨z0,z1,z2,z3,z4⟩:=hbox.free
 have hlt:=hbox.lt
 obtain ⟨r0,r1,r2,r3,r4⟩:=(hbox.set (.int .i64 1) (.int .i64 rq) (.int .i64 0) (.string ⟨#[]⟩) (.slice none 0 0)).cells
 have HBF:=Lib.hid ((HWH.out t).1.trans (set5_below (W t) w.heap.size w.heap.size (.int .i64 1) (.int .i64 rq) (.int .i64 0) (.string ⟨#[]⟩) (.slice none 0 0) (Nat.le_refl _)))
 clear g0 g1 g2 g3 g4
 go_wp2_with fail
 rw[←HR.out]
 exact bodyPost_ret (v:=.tuple #[leafV 1 rq 0,.int .i64 0]) (by simp[results,Tryz.results100,go_sem,leafV,r0,r1,r2,r3,r4]) rfl (endPost_leaf (by omega) (by skip<;>omega) (by omega) rfl HBF.out)
end
section
open Go.RowKit
theorem does_7 (l:List Dat) (sl:Value) (B:Nat) (w:World) (hv:RepS w B l sl) (hB:B≤w.heap.size) (hr:∀x∈l,Dat.right x 0=true) (hl:l.length=2) :
  Calls Tryz.prog 100 #[.int .i64 7,sl] w (EndPost B (Prims.does 7 l) w):=by
 obtain ⟨x,y,rfl⟩:∃x y,l=[x,y]:=by
  match l,hl with
  | [x,y],_=>exact ⟨x,y,rfl⟩
 have hrx:=hr x (by simp)
 have hry:=hr y (by simp)
 obtain ⟨o,len,cap,rfl,hlen,hcap,hmax⟩:=slice_of hv
 obtain rfl:len=2:=hlen
 obtain ⟨b,off,k,n,d,s,l',o',len',cap',ho,hx,e0,e1,e2,e3,e4,er⟩:=part_atS hv (Below.refl _ _) (j:=0) rfl
 subst ho hx
 obtain ⟨b2,off2,k2,n2,d2,s2,l2,o2,len2,cap2,ho2,hy,f0,f1,f2,f3,f4,fr⟩:=part_atS hv (Below.refl _ _) (j:=1) rfl
 simp only[Option.some.injEq,Addr.mk.injEq,and_true] at ho2
 obtain ⟨rfl,rfl⟩:=ho2
 subst hy
 simp only[Nat.one_mul,Nat.add_assoc,Nat.reduceAdd] at f0 f1 f2 f3 f4
 have FR:=Lib.hid fr
 simp only[Nat.zero_mul,Nat.add_zero] at e0 e1 e2 e3 e4
 have hbl:=cell_lt e0
 have ER:=Lib.hid er
 have HRX:=Lib.hid hrx
 have HRY:=Lib.hid hry
 obtain ⟨R,hR⟩:∃R,Prims.does 7 [Dat.mk k n d s l',Dat.mk k2 n2 d2 s2 l2]=R:=⟨_,rfl⟩
 rw[hR]
 have HK:=Lib.hid (fun X Y=>((Below.refl w.heap.size w).alloc (Nat.le_refl _) X).alloc (by simp) Y)
 have HV:=Lib.hid hv
 clear hv er hrx hr hl fr hry
 obtain ⟨kq,nq,dq,zq,hq⟩:∃kq nq dq zq,Prims.equal (.mk k n d s l') (.mk k2 n2 d2 s2 l2)=(.mk kq nq dq ⟨#[]⟩ [],zq)∧(kq=0∧nq=0∧dq=0∨kq=1∧(nq=0∨nq=1)∧dq=0):=by
  unfold Prims.equal
  split
  ·exact ⟨0,0,0,3,rfl,.inl ⟨rfl,rfl,rfl⟩⟩
  ·exact ⟨1,_,0,0,rfl,.inr ⟨rfl,by split<;>simp,rfl⟩⟩
 have bq:=hq.2
 have HRR:=Lib.hid hq.1
 have HR:=Lib.hid (show (Dat.mk kq nq dq ⟨#[]⟩ [],zq)=R by rw[←hR,←hq.1];simp[Prims.does])
 clear hR hq
 go_enter Tryz.func100,Tryz.ntmps100
 have HN:=Lib.hid (ClsA.new w (.int .i64 k) (.int .i64 n) (.int .i64 d) (.string s) (.slice o' len' cap')).drew
 go_wp2_with fail
 refine wp_region_quiet_class (ClsA w (.int .i64 k) (.int .i64 n) (.int .i64 d) (.string s) (.slice o' len' cap')) 7 (by kernel_rfl) (by kernel_rfl) HN.out ?_
 intro T0 _ W HW HW2
 have g0:∀t,(W t).cell? _=_:=fun t=>(HW t).2.2.1.cells.1
 have g1:∀t,(W t).cell? _=_:=fun t=>(HW t).2.2.1.cells.2.1
 have g2:∀t,(W t).cell? _=_:=fun t=>(HW t).2.2.1.cells.2.2.1
 have g3:∀t,(W t).cell? _=_:=fun t=>(HW t).2.2.1.cells.2.2.2.1
 have g4:∀t,(W t).cell? _=_:=fun t=>(HW t).2.2.1.cells.2.2.2.2
 have j0:∀t,(W t).cell? _=_:=fun t=>((HW t).1.cell (p:=⟨b,off+5,none⟩) hbl).trans f0
 have j1:∀t,(W t).cell? _=_:=fun t=>((HW t).1.cell (p:=⟨b,off+6,none⟩) hbl).trans f1
 have j2:∀t,(W t).cell? _=_:=fun t=>((HW t).1.cell (p:=⟨b,off+7,none⟩) hbl).trans f2
 have j3:∀t,(W t).cell? _=_:=fun t=>((HW t).1.cell (p:=⟨b,off+8,none⟩) hbl).trans f3
 have j4:∀t,(W t).cell? _=_:=fun t=>((HW t).1.cell (p:=⟨b,off+9,none⟩) hbl).trans f4
 have HC0:Hid (∀t,Calls Tryz.prog 119 #[.agg #[.int .i64 k,.int .i64 n,.int .i64 d,.string s,.slice o' len' cap'],.agg #[.int .i64 k2,.int .i64 n2,.int .i64 d2,.string s2,.slice o2 len2 cap2]] (W t) fun e w'=>e=.returned (.tuple #[.agg #[.int .i64 kq,.int .i64 nq,.int .i64 dq,.string ⟨#[]⟩,.slice none 0 0],.int .i64 zq])∧∃t',w'=W t'):=Lib.hid (fun t=>(pequal_any (.mk k n d s l') (.mk k2 n2 d2 s2 l2) _ _ B (W t) kq nq dq zq HRR.out (ER.out.kept (Below.mono (HW t).1 hB)) (FR.out.kept (Below.mono (HW t).1 hB)) (Nat.le_trans hB (HW t).1.size)).mono fun e w' h=>⟨h.1,HW2 _ ((HW t).next h.2)⟩)
 have HWH:=Lib.hid HW
 clear HW HW2
 simp only[List.take_succ_cons,List.take_zero,List.drop_succ_cons,List.drop_zero]
 repeat (go_big_quiet_step (first | (go_at_call 119;exact HC0.out _)))
 refine wpQuiet_nil ?_
 intro t
 have hbox:=(HWH.out t).2.1
 obtain ⟨q0,q1,q2,q3,q4⟩:=hbox.cells
 obtain ⟨z0,z1,z2,z3,z4⟩:=hbox.free
 have hlt:=hbox.lt
 obtain ⟨r0,r1,r2,r3,r4⟩:=(hbox.set (.int .i64 kq) (.int .i64 nq) (.int .i64 dq) (.string ⟨#[]⟩) (.slice none 0 0)).cells
 have HBF:=Lib.hid ((HWH.out t).1.trans (set5_below (W t) w.heap.size w.heap.size (.int .i64 kq) (.int .i64 nq) (.int .i64 dq) (.string ⟨#[]⟩) (.slice none 0 0) (Nat.le_refl _)))
 clear g0 g1 g2 g3 g4
 go_wp2_with fail
 rw[←HR.out]
 exact bodyPost_ret (v:=.tuple #[leafV kq nq dq,.int .i64 zq]) (by simp[results,Tryz.results100,go_sem,leafV,r0,r1,r2,r3,r4]) rfl (endPost_leaf (by omega) (by skip<;>omega) (by omega) rfl HBF.out)
theorem does_8 (l:List Dat) (sl:Value) (B:Nat) (w:World) (hv:RepS w B l sl) (_hB:B≤w.heap.size) (hr:∀x∈l,Dat.right x 0=true) (hl:l.length=1) :
  Calls Tryz.prog 100 #[.int .i64 8,sl] w (EndPost B (Prims.does 8 l) w):=by
 obtain ⟨x,rfl⟩:∃x,l=[x]:=by
  match l,hl with
  | [x],_=>exact ⟨x,rfl⟩
 have hrx:=hr x (by simp)
 obtain ⟨o,len,cap,rfl,hlen,hcap,hmax⟩:=slice_of hv
 obtain rfl:len=1:=hlen
 obtain ⟨b,off,k,n,d,s,l',o',len',cap',ho,hx,e0,e1,e2,e3,e4,er⟩:=part_atS hv (Below.refl _ _) (j:=0) rfl
 subst ho hx
 simp only[Nat.zero_mul,Nat.add_zero] at e0 e1 e2 e3 e4
 have hbl:=cell_lt e0
 have ER:=Lib.hid er
 have HRX:=Lib.hid hrx
 obtain ⟨R,hR⟩:∃R,Prims.does 8 [Dat.mk k n d s l']=R:=⟨_,rfl⟩
 rw[hR]
 have HK:=Lib.hid (fun X Y=>((Below.refl w.heap.size w).alloc (Nat.le_refl _) X).alloc (by simp) Y)
 have HV:=Lib.hid hv
 clear hv er hrx hr hl
 by_cases hk:k=1
 ·subst hk
  by_cases hn:n=0
  ·subst hn
   have HR:=Lib.hid (show (Prims.truth true,(0:Int))=R by rw[←hR];simp[Prims.does,Dat.kind,Dat.n])
   clear hR HV HRX
   have HN:=Lib.hid (ClsA.new w)
   go_enter Tryz.func100,Tryz.ntmps100
   go_wp2_with fail
   refine (truth_any true _).mono ?_
   rintro e1 w1 ⟨rfl,hb1⟩
   simp only[leafV,↓reduceIte]
   have HC1:=Lib.hid ((HN.out _ _ _ _ _).next hb1)
   have hbox:=HC1.out.2.1
   obtain ⟨q0,q1,q2,q3,q4⟩:=hbox.cells
   obtain ⟨z0,z1,z2,z3,z4⟩:=hbox.free
   have hlt:=hbox.lt
   obtain ⟨r0,r1,r2,r3,r4⟩:=(hbox.set (.int .i64 1) (.int .i64 1) (.int .i64 0) (.string ⟨#[]⟩) (.slice none 0 0)).cells
   have HBF:=Lib.hid (HC1.out.1.trans (set5_below w1 w.heap.size w.heap.size (.int .i64 1) (.int .i64 1) (.int .i64 0) (.string ⟨#[]⟩) (.slice none 0 0) (Nat.le_refl _)))
   clear hb1
   go_wp2_with fail
   rw[←HR.out]
   exact bodyPost_ret (v:=.tuple #[leafV 1 1 0,.int .i64 0]) (by simp[results,Tryz.results100,go_sem,leafV,r0,r1,r2,r3,r4]) rfl (endPost_leaf (by omega) (by omega) (by omega) rfl HBF.out)
  ·have n0:(n==0)=false:=by simpa using hn
   have HR:=Lib.hid (show (Prims.truth false,(0:Int))=R by rw[←hR];simp[Prims.does,Dat.kind,Dat.n,hn])
   clear hR HV HRX
   have HN:=Lib.hid (ClsA.new w)
   go_enter Tryz.func100,Tryz.ntmps100
   go_wp2_with fail
   refine (truth_any false _).mono ?_
   rintro e1 w1 ⟨rfl,hb1⟩
   simp only[leafV,↓reduceIte,Bool.false_eq_true]
   have HC1:=Lib.hid ((HN.out _ _ _ _ _).next hb1)
   have hbox:=HC1.out.2.1
   obtain ⟨q0,q1,q2,q3,q4⟩:=hbox.cells
   obtain ⟨z0,z1,z2,z3,z4⟩:=hbox.free
   have hlt:=hbox.lt
   obtain ⟨r0,r1,r2,r3,r4⟩:=(hbox.set (.int .i64 1) (.int .i64 0) (.int .i64 0) (.string ⟨#[]⟩) (.slice none 0 0)).cells
   have HBF:=Lib.hid (HC1.out.1.trans (set5_below w1 w.heap.size w.heap.size (.int .i64 1) (.int .i64 0) (.int .i64 0) (.string ⟨#[]⟩) (.slice none 0 0) (Nat.le_refl _)))
   clear hb1
   go_wp2_with fail
   rw[←HR.out]
   exact bodyPost_ret (v:=.tuple #[leafV 1 0 0,.int .i64 0]) (by simp[results,Tryz.results100,go_sem,leafV,r0,r1,r2,r3,r4]) rfl (endPost_leaf (by omega) (by omega) (by omega) rfl HBF.out)
 ·have k1:(k==1)=false:=by simpa using hk
  have HR:=Lib.hid (show (Prims.truth false,(0:Int))=R by rw[←hR];simp[Prims.does,Dat.kind,Dat.n,hk])
  clear hR HV HRX
  have HN:=Lib.hid (ClsA.new w)
  go_enter Tryz.func100,Tryz.ntmps100
  go_wp2_with fail
  refine (truth_any false _).mono ?_
  rintro e1 w1 ⟨rfl,hb1⟩
  simp only[leafV,↓reduceIte,Bool.false_eq_true]
  have HC1:=Lib.hid ((HN.out _ _ _ _ _).next hb1)
  have hbox:=HC1.out.2.1
  obtain ⟨q0,q1,q2,q3,q4⟩:=hbox.cells
  obtain ⟨z0,z1,z2,z3,z4⟩:=hbox.free
  have hlt:=hbox.lt
  obtain ⟨r0,r1,r2,r3,r4⟩:=(hbox.set (.int .i64 1) (.int .i64 0) (.int .i64 0) (.string ⟨#[]⟩) (.slice none 0 0)).cells
  have HBF:=Lib.hid (HC1.out.1.trans (set5_below w1 w.heap.size w.heap.size (.int .i64 1) (.int .i64 0) (.int .i64 0) (.string ⟨#[]⟩) (.slice none 0 0) (Nat.le_refl _)))
  clear hb1
  go_wp2_with fail
  rw[←HR.out]
  exact bodyPost_ret (v:=.tuple #[leafV 1 0 0,.int .i64 0]) (by simp[results,Tryz.results100,go_sem,leafV,r0,r1,r2,r3,r4]) rfl (endPost_leaf (by omega) (by omega) (by omega) rfl HBF.out)
end
section
open Go.RowKit
theorem does_22 (l:List Dat) (sl:Value) (B:Nat) (w:World) (hv:RepS w B l sl) (hB:B≤w.heap.size) (hr:∀x∈l,Dat.right x 0=true) (hl:l.length=2) :
  Calls Tryz.prog 100 #[.int .i64 22,sl] w (EndPost B (Prims.does 22 l) w):=by
 obtain ⟨x,y,rfl⟩:∃x y,l=[x,y]:=by
  match l,hl with
  | [x,y],_=>exact ⟨x,y,rfl⟩
 have hrx:=hr x (by simp)
 have hry:=hr y (by simp)
 obtain ⟨o,len,cap,rfl,hlen,hcap,hmax⟩:=slice_of hv
 obtain rfl:len=2:=hlen
 obtain ⟨b,off,k,n,d,s,l',o',len',cap',ho,hx,e0,e1,e2,e3,e4,er⟩:=part_atS hv (Below.refl _ _) (j:=0) rfl
 subst ho hx
 obtain ⟨b2,off2,k2,n2,d2,s2,l2,o2,len2,cap2,ho2,hy,f0,f1,f2,f3,f4,fr⟩:=part_atS hv (Below.refl _ _) (j:=1) rfl
 simp only[Option.some.injEq,Addr.mk.injEq,and_true] at ho2
 obtain ⟨rfl,rfl⟩:=ho2
 subst hy
 simp only[Nat.one_mul,Nat.add_assoc,Nat.reduceAdd] at f0 f1 f2 f3 f4
 have FR:=Lib.hid fr
 simp only[Nat.zero_mul,Nat.add_zero] at e0 e1 e2 e3 e4
 have hbl:=cell_lt e0
 have ER:=Lib.hid er
 have HRX:=Lib.hid hrx
 have HRY:=Lib.hid hry
 obtain ⟨R,hR⟩:∃R,Prims.does 22 [Dat.mk k n d s l',Dat.mk k2 n2 d2 s2 l2]=R:=⟨_,rfl⟩
 rw[hR]
 have HK:=Lib.hid (fun X Y=>((Below.refl w.heap.size w).alloc (Nat.le_refl _) X).alloc (by simp) Y)
 have HV:=Lib.hid hv
 clear hv er hrx hr hl fr hry
 obtain ⟨kq,nq,dq,sq,oq,lenq,capq,hrep,hat⟩:=at_any (.mk k n d s l') (.mk k2 n2 d2 s2 l2) _ _ B w ER.out FR.out
 obtain ⟨⟨Rq,zq⟩,hq⟩:∃q,Prims.at' (.mk k n d s l') (.mk k2 n2 d2 s2 l2)=q:=⟨_,rfl⟩
 rw[hq] at hrep hat
 have HREP:=Lib.hid hrep
 have HAT:=Lib.hid hat
 have HR:=Lib.hid (show (Rq,zq)=R by rw[←hR,←hq];simp[Prims.does])
 clear hR hq hrep hat
 go_enter Tryz.func100,Tryz.ntmps100
 have HN:=Lib.hid (ClsA.new w (.int .i64 k) (.int .i64 n) (.int .i64 d) (.string s) (.slice o' len' cap')).drew
 go_wp2_with fail
 refine wp_region_quiet_class (ClsA w (.int .i64 k) (.int .i64 n) (.int .i64 d) (.string s) (.slice o' len' cap')) 7 (by kernel_rfl) (by kernel_rfl) HN.out ?_
 intro T0 _ W HW HW2
 have g0:∀t,(W t).cell? _=_:=fun t=>(HW t).2.2.1.cells.1
 have g1:∀t,(W t).cell? _=_:=fun t=>(HW t).2.2.1.cells.2.1
 have g2:∀t,(W t).cell? _=_:=fun t=>(HW t).2.2.1.cells.2.2.1
 have g3:∀t,(W t).cell? _=_:=fun t=>(HW t).2.2.1.cells.2.2.2.1
 have g4:∀t,(W t).cell? _=_:=fun t=>(HW t).2.2.1.cells.2.2.2.2
 have j0:∀t,(W t).cell? _=_:=fun t=>((HW t).1.cell (p:=⟨b,off+5,none⟩) hbl).trans f0
 have j1:∀t,(W t).cell? _=_:=fun t=>((HW t).1.cell (p:=⟨b,off+6,none⟩) hbl).trans f1
 have j2:∀t,(W t).cell? _=_:=fun t=>((HW t).1.cell (p:=⟨b,off+7,none⟩) hbl).trans f2
 have j3:∀t,(W t).cell? _=_:=fun t=>((HW t).1.cell (p:=⟨b,off+8,none⟩) hbl).trans f3
 have j4:∀t,(W t).cell? _=_:=fun t=>((HW t).1.cell (p:=⟨b,off+9,none⟩) hbl).trans f4
 have HC0:Hid (∀t,Calls Tryz.prog 120 #[.agg #[.int .i64 k,.int .i64 n,.int .i64 d,.string s,.slice o' len' cap'],.agg #[.int .i64 k2,.int .i64 n2,.int .i64 d2,.string s2,.slice o2 len2 cap2]] (W t) fun e w'=>e=.returned (.tuple #[.agg #[.int .i64 kq,.int .i64 nq,.int .i64 dq,.string sq,.slice oq lenq capq],.int .i64 zq])∧∃t',w'=W t'):=Lib.hid (fun t=>(HAT.out (W t) (Below.mono (HW t).1 hB) (Nat.le_trans hB (HW t).1.size)).mono fun e w' h=>⟨h.1,HW2 _ ((HW t).next h.2)⟩)
 have HWH:=Lib.hid HW
 clear HW HW2
 simp only[List.take_succ_cons,List.take_zero,List.drop_succ_cons,List.drop_zero]
 repeat (go_big_quiet_step (first | (go_at_call 120;exact HC0.out _)))
 refine wpQuiet_nil ?_
 intro t
 have hbox:=(HWH.out t).2.1
 obtain ⟨q0,q1,q2,q3,q4⟩:=hbox.cells
 obtain ⟨z0,z1,z2,z3,z4⟩:=hbox.free
 have hlt:=hbox.lt
 obtain ⟨r0,r1,r2,r3,r4⟩:=(hbox.set (.int .i64 kq) (.int .i64 nq) (.int .i64 dq) (.string sq) (.slice oq lenq capq)).cells
 have HBF:=Lib.hid ((HWH.out t).1.trans (set5_below (W t) w.heap.size w.heap.size (.int .i64 kq) (.int .i64 nq) (.int .i64 dq) (.string sq) (.slice oq lenq capq) (Nat.le_refl _)))
 clear g0 g1 g2 g3 g4
 go_wp2_with fail
 rw[←HR.out]
 exact bodyPost_ret (v:=.tuple #[.agg #[.int .i64 kq,.int .i64 nq,.int .i64 dq,.string sq,.slice oq lenq capq],.int .i64 zq]) (by simp[results,Tryz.results100,go_sem,r0,r1,r2,r3,r4]) rfl ⟨kq,nq,dq,sq,oq,lenq,capq,rfl,HREP.out.kept (HBF.out.mono hB),HBF.out⟩
theorem does_23 (l:List Dat) (sl:Value) (B:Nat) (w:World) (hv:RepS w B l sl) (_hB:B≤w.heap.size) (hr:∀x∈l,Dat.right x 0=true) (hl:l.length=1) :
  Calls Tryz.prog 100 #[.int .i64 23,sl] w (EndPost B (Prims.does 23 l) w):=by
 obtain ⟨x,rfl⟩:∃x,l=[x]:=by
  match l,hl with
  | [x],_=>exact ⟨x,rfl⟩
 have hrx:=hr x (by simp)
 obtain ⟨o,len,cap,rfl,hlen,hcap,hmax⟩:=slice_of hv
 obtain rfl:len=1:=hlen
 obtain ⟨b,off,k,n,d,s,l',o',len',cap',ho,hx,e0,e1,e2,e3,e4,er⟩:=part_atS hv (Below.refl _ _) (j:=0) rfl
 subst ho hx
 simp only[Nat.zero_mul,Nat.add_zero] at e0 e1 e2 e3 e4
 have hbl:=cell_lt e0
 have ER:=Lib.hid er
 have HRX:=Lib.hid hrx
 obtain ⟨R,hR⟩:∃R,Prims.does 23 [Dat.mk k n d s l']=R:=⟨_,rfl⟩
 rw[hR]
 have HK:=Lib.hid (fun X Y=>((Below.refl w.heap.size w).alloc (Nat.le_refl _) X).alloc (by simp) Y)
 have HV:=Lib.hid hv
 clear hv er hrx hr hl
 by_cases hk:k≠7
 ·have k7:(k != 7)=true:=by simpa using hk
  have HR:=Lib.hid (show (Prims.zeroD,(1:Int))=R by rw[←hR];simp[Prims.does,hk,Dat.kind])
  clear hR HV ER HRX
  go_enter Tryz.func100,Tryz.ntmps100
  go_wp2_with fail
  rw[←HR.out]
  exact bodyPost_ret (v:=.tuple #[leafV 0 0 0,.int .i64 1]) (by simp[results,Tryz.results100,go_sem,leafV]) rfl (endPost_leaf (by omega) (by omega) (by omega) rfl (HK.out _ _))
 obtain rfl:k=7:=by omega
 obtain ⟨_,hv2,_,_,_,_,hs⟩:=ER.out.open
 simp only[Value.agg.injEq,Array.mk.injEq,List.cons.injEq,and_true,true_and] at hv2
 obtain rfl:=hv2
 have hl2:len'=l'.length∧len'≤9223372036854775807:=by obtain ⟨_,_,_,he,h2,h3,h4,_⟩:=hs;simp only[Value.slice.injEq] at he;rw[he.2.1];exact ⟨h2,Nat.le_trans h3 h4⟩
 have HR:=Lib.hid (show (Prims.num len' 1,(0:Int))=R by rw[←hR,hl2.1];simp[Prims.does,Dat.kind,Dat.l])
 have hlm:=hl2.2
 clear hR HV HRX hs hl2
 have HN:=Lib.hid (ClsA.new w)
 go_enter Tryz.func100,Tryz.ntmps100
 go_wp2_with fail
 refine (whole_any len' _).mono ?_
 rintro e1 w1 ⟨rfl,hb1⟩
 simp only[leafV]
 have HC1:=Lib.hid ((HN.out _ _ _ _ _).next hb1)
 have hbox:=HC1.out.2.1
 obtain ⟨q0,q1,q2,q3,q4⟩:=hbox.cells
 obtain ⟨z0,z1,z2,z3,z4⟩:=hbox.free
 have hlt:=hbox.lt
 obtain ⟨r0,r1,r2,r3,r4⟩:=(hbox.set (.int .i64 0) (.int .i64 len') (.int .i64 1) (.string ⟨#[]⟩) (.slice none 0 0)).cells
 have HBF:=Lib.hid (HC1.out.1.trans (set5_below w1 w.heap.size w.heap.size (.int .i64 0) (.int .i64 len') (.int .i64 1) (.string ⟨#[]⟩) (.slice none 0 0) (Nat.le_refl _)))
 clear hb1
 go_wp2_with fail
 rw[←HR.out]
 exact bodyPost_ret (v:=.tuple #[leafV 0 len' 1,.int .i64 0]) (by simp[results,Tryz.results100,go_sem,leafV,r0,r1,r2,r3,r4]) rfl (endPost_leaf (by omega) (by omega) (by omega) rfl HBF.out)
theorem does_24 (l:List Dat) (sl:Value) (B:Nat) (w:World) (hv:RepS w B l sl) (hB:B≤w.heap.size) (hr:∀x∈l,Dat.right x 0=true) (hl:l.length=1) :
  Calls Tryz.prog 100 #[.int .i64 24,sl] w (EndPost B (Prims.does 24 l) w):=by
 obtain ⟨x,rfl⟩:∃x,l=[x]:=by
  match l,hl with
  | [x],_=>exact ⟨x,rfl⟩
 have hrx:=hr x (by simp)
 obtain ⟨o,len,cap,rfl,hlen,hcap,hmax⟩:=slice_of hv
 obtain rfl:len=1:=hlen
 obtain ⟨b,off,k,n,d,s,l',o',len',cap',ho,hx,e0,e1,e2,e3,e4,er⟩:=part_atS hv (Below.refl _ _) (j:=0) rfl
 subst ho hx
 simp only[Nat.zero_mul,Nat.add_zero] at e0 e1 e2 e3 e4
 have hbl:=cell_lt e0
 have ER:=Lib.hid er
 have HRX:=Lib.hid hrx
 obtain ⟨R,hR⟩:∃R,Prims.does 24 [Dat.mk k n d s l']=R:=⟨_,rfl⟩
 rw[hR]
 have HK:=Lib.hid (fun X Y=>((Below.refl w.heap.size w).alloc (Nat.le_refl _) X).alloc (by simp) Y)
 have HV:=Lib.hid hv
 clear hv er hrx hr hl
 obtain ⟨it,hit⟩:∃it,Dat.items (.mk k n d s l')=it:=⟨_,rfl⟩
 have HIT:=Lib.hid (fun W (hb:Below w.heap.size w W)=>items_any (.mk k n d s l') _ B W (ER.out.kept (hb.mono hB)) (Nat.le_trans hB hb.size))
 rw[if_pos HRX.out,hit] at HIT
 have HN:=Lib.hid (ClsA.new w)
 have hR2:=hR
 cases it with
 | none=>
  have HR:=Lib.hid (show (Prims.zeroD,(1:Int))=R by rw[←hR];simp[Prims.does,hit])
  clear hR hR2 HV HRX hit
  go_enter Tryz.func100,Tryz.ntmps100
  go_wp2_with fail
  refine (HIT.out _ (HN.out (.int .i64 k) (.int .i64 n) (.int .i64 d) (.string s) (.slice o' len' cap')).1).mono ?_
  rintro e1 w1 ⟨v1,l1,rfl,hl1,hs1,hb1⟩
  simp only[Option.isSome_none]
  have HC1:=Lib.hid ((HN.out (.int .i64 k) (.int .i64 n) (.int .i64 d) (.string s) (.slice o' len' cap')).next hb1)
  have hbox:=HC1.out.2.1
  obtain ⟨q0,q1,q2,q3,q4⟩:=hbox.cells
  obtain ⟨z0,z1,z2,z3,z4⟩:=hbox.free
  have hlt:=hbox.lt
  obtain ⟨r0,r1,r2,r3,r4⟩:=(hbox.set (.int .i64 0) (.int .i64 0) (.int .i64 0) (.string ⟨#[]⟩) (.slice none 0 0)).cells
  have HBF:=Lib.hid (HC1.out.1.trans (set5_below w1 w.heap.size w.heap.size (.int .i64 0) (.int .i64 0) (.int .i64 0) (.string ⟨#[]⟩) (.slice none 0 0) (Nat.le_refl _)))
  clear hb1 hl1 hs1
  go_wp2_with fail
  rw[←HR.out]
  exact bodyPost_ret (v:=.tuple #[leafV 0 0 0,.int .i64 1]) (by simp[results,Tryz.results100,go_sem,leafV,r0,r1,r2,r3,r4]) rfl (endPost_leaf (by omega) (by omega) (by omega) rfl HBF.out)
 | some it=>
  have HR:=Lib.hid (show (Prims.num it.length 1,(0:Int))=R by rw[←hR];simp[Prims.does,hit])
  clear hR hR2 HV HRX hit
  go_enter Tryz.func100,Tryz.ntmps100
  go_wp2_with fail
  refine (HIT.out _ (HN.out (.int .i64 k) (.int .i64 n) (.int .i64 d) (.string s) (.slice o' len' cap')).1).mono ?_
  rintro e1 w0 ⟨v1,l1,rfl,hl1,hs1,hb0⟩
  obtain rfl:l1=it:=hl1
  simp only[Option.isSome_some]
  have HN0:=Lib.hid ((HN.out (.int .i64 k) (.int .i64 n) (.int .i64 d) (.string s) (.slice o' len' cap')).next hb0)
  obtain ⟨o1,len1,cap1,rfl,hlen1,hcap1,hmax1⟩:=slice_at hs1
  rw[←hlen1] at HR
  clear hb0 hs1 hlen1
  go_wp2_with fail
  refine (whole_any len1 _).mono ?_
  rintro e1 w1 ⟨rfl,hb1⟩
  simp only[leafV]
  have HC1:=Lib.hid (HN0.out.next hb1)
  have hbox:=HC1.out.2.1
  obtain ⟨q0,q1,q2,q3,q4⟩:=hbox.cells
  obtain ⟨z0,z1,z2,z3,z4⟩:=hbox.free
  have hlt:=hbox.lt
  obtain ⟨r0,r1,r2,r3,r4⟩:=(hbox.set (.int .i64 0) (.int .i64 len1) (.int .i64 1) (.string ⟨#[]⟩) (.slice none 0 0)).cells
  have HBF:=Lib.hid (HC1.out.1.trans (set5_below w1 w.heap.size w.heap.size (.int .i64 0) (.int .i64 len1) (.int .i64 1) (.string ⟨#[]⟩) (.slice none 0 0) (Nat.le_refl _)))
  clear hb1
  go_wp2_with fail
  rw[←HR.out]
  exact bodyPost_ret (v:=.tuple #[leafV 0 len1 1,.int .i64 0]) (by simp[results,Tryz.results100,go_sem,leafV,r0,r1,r2,r3,r4]) rfl (endPost_leaf (by omega) (by omega) (by omega) rfl HBF.out)
theorem does_25 (sl:Value) (B:Nat) (w:World) (hv:RepS w B [] sl) (_hB:B≤w.heap.size) :
  Calls Tryz.prog 100 #[.int .i64 25,sl] w (EndPost B (Prims.does 25 []) w):=by
 obtain ⟨o,len,cap,rfl,hlen,hcap,hmax⟩:=slice_of hv
 obtain ⟨R,hR⟩:∃R,Prims.does 25 []=R:=⟨_,rfl⟩
 rw[hR]
 have HR:=Lib.hid (show (Prims.voidD,(0:Int))=R by rw[←hR];simp[Prims.does])
 clear hR hv
 have HK:=Lib.hid (fun X=>(Below.refl w.heap.size w).alloc (Nat.le_refl _) X)
 go_enter Tryz.func100,Tryz.ntmps100
 go_wp2_with fail
 rw[←HR.out]
 exact bodyPost_ret (v:=.tuple #[leafV 5 0 0,.int .i64 0]) (by simp[results,Tryz.results100,go_sem,leafV]) rfl (endPost_leaf (by omega) (by omega) (by omega) rfl (HK.out _))
end
section
open Go Go.RowKit
def S3 (a b c:Nat) (x:Nat):Prop:=x=a∨x=b∨x=c
def setOf (l:List Int):Int→Bool:=Trm.addV (fun _=>false) l
structure ChkS (W:World) (cb bb sb:Nat) (nc nk:Int) (fr:Bool) (size:Int) (l:List Int) (sc:Int→Bool):Prop where
 box:BoxL W cb 65 [.int .i64 2,.int .i64 nc,.int .i64 nk,.bool fr,.int .i64 size,.map (some bb)]
 bound:MapVB W bb l.length (setOf l)
 scope:MapVB W sb l.length sc
 new:Trm.newB (fun _=>false) l=true
 ne:bb≠sb
structure ChkX (W:World) (cb bb sb:Nat) (nc nk:Int) (fr:Bool):Prop where
 box:∃size,BoxL W cb 65 [.int .i64 2,.int .i64 nc,.int .i64 nk,.bool fr,.int .i64 size,.map (some bb)]
 bound:∃m f,MapVB W bb m f
 scope:∃m f,MapVB W sb m f
 ne:bb≠sb
theorem ChkS.bad {W:World} {cb bb sb:Nat} {nc nk:Int} {fr:Bool} {size:Int} {l:List Int} {sc:Int→Bool} (h:ChkS W cb bb sb nc nk fr size l sc):ChkX W cb bb sb nc nk fr:=⟨⟨_,h.box⟩,⟨_,_,h.bound⟩,⟨_,_,h.scope⟩,h.ne⟩
theorem map_box_ne {W:World} {b c n:Nat} {f:Int→Bool} {t:TypeId} {cs:List Value} (h:MapVB W b n f) (hc:BoxL W c t cs):c≠b:=fun e=>by
 subst e
 obtain ⟨D,⟨es,clock,hb,_⟩,_⟩:=h
 rw[show W.heap[c]?=_ from hc] at hb
 simp at hb
theorem ChkS.keep {W W':World} {cb bb sb:Nat} {nc nk:Int} {fr:Bool} {size:Int} {l:List Int} {sc:Int→Bool} (h:ChkS W cb bb sb nc nk fr size l sc) (hb:Below W.heap.size W W'):ChkS W' cb bb sb nc nk fr size l sc:=⟨h.box.keep hb,h.bound.keep hb,h.scope.keep hb,h.new,h.ne⟩
theorem ChkX.keep {W W':World} {cb bb sb:Nat} {nc nk:Int} {fr:Bool} (h:ChkX W cb bb sb nc nk fr) (hb:Below W.heap.size W W'):ChkX W' cb bb sb nc nk fr:=by
 obtain ⟨⟨s,h1⟩,⟨m,f,h2⟩,⟨m',f',h3⟩,h4⟩:=h
 exact ⟨⟨s,h1.keep hb⟩,⟨m,f,h2.keep hb⟩,⟨m',f',h3.keep hb⟩,h4⟩
theorem ChkS.room {W:World} {cb bb sb:Nat} {nc nk:Int} {fr:Bool} {size:Int} {l:List Int} {sc:Int→Bool} (h:ChkS W cb bb sb nc nk fr size l sc):l.length≤1000001:=Trm.newB_short h.new
theorem setOf_snoc (l:List Int) (x:Int):setOf (l++[x])=fun y=>if y=x then true else setOf l y:=by
 funext y
 by_cases h:y=x
 ·simp[setOf,Trm.addV,h]
 ·simp[setOf,Trm.addV,h]
theorem addV_snoc (f:Int→Bool) (l:List Int) (x:Int):Trm.addV f (l++[x])=fun y=>if y=x then true else Trm.addV f l y:=by
 funext y
 by_cases h:y=x
 ·simp[Trm.addV,h]
 ·simp[Trm.addV,h]
theorem newB_snoc {l:List Int} {x:Int} (h:Trm.newB (fun _=>false) l=true):Trm.newB (fun _=>false) (l++[x])=(decide (0≤x)&&(decide (x≤1000000) && !setOf l x)):=by
 rw[Trm.newB_append,h,Bool.true_and,Trm.newB,Trm.newB,Bool.and_true]
 rfl
theorem newB_prefix {l m:List Int} (h:Trm.newB (fun _=>false) l=false):Trm.newB (fun _=>false) (l++m)=false:=by rw[Trm.newB_append,h,Bool.false_and]
def ChkPost (cb bb sb:Nat) (nc nk:Int) (fr:Bool) (r:Bool) (Good:World→Prop) (w:World) (e:Ending) (w':World):Prop:=e=.returned (.bool r)∧Turned (S3 cb bb sb) w w'∧(r=true→Good w')∧(r=false→ChkX w' cb bb sb nc nk fr)
theorem bind_any (cb bb sb:Nat) (nc nk:Int) (fr:Bool) (size:Int) (l v:List Int) (sc:Int→Bool) (B:Nat) (w:World) (ov:Option Addr) (lv cv:Nat) (hv:SlC w B 1 IntR v (.slice ov lv cv)) (hS:∀b,S3 cb bb sb b→B≤b) (hB:B≤w.heap.size) (hc:ChkS w cb bb sb nc nk fr size l sc) :
  Calls Tryz.prog 65 #[.pointer (some ⟨cb,0,none⟩),.slice ov lv cv,.map (some sb)] w (ChkPost cb bb sb nc nk fr (Trm.newB (fun _=>false) (l++v)) (fun w'=>ChkS w' cb bb sb nc nk fr size (l++v) (Trm.addV sc v)) w):=by
 obtain ⟨r,hr⟩:∃r,Trm.newB (fun _=>false) (l++v)=r:=⟨_,rfl⟩
 rw[hr]
 have HR:=Lib.hid hr
 have HV:=Lib.hid hv
 obtain ⟨hlen,hcap,hmax⟩:=hv.lens
 have HL:=Lib.hid hlen
 have HC:=Lib.hid hc
 have HSB:=Lib.hid hS
 clear hr hv hlen hc hS
 go_enter Tryz.func65,Tryz.ntmps65
 go_wp2_with fail
 go_loopg [11] lv (fun g i wr=>∃(j:Nat),g=lv-j∧i=.int .i64 j∧j≤lv∧Hid (ChkS wr cb bb sb nc nk fr size (l++v.take j) (Trm.addV sc (v.take j)))∧Hid (Turned (S3 cb bb sb) w wr))
 case atStart=>exact ⟨0,rfl,rfl,by omega,by rw[List.take_zero,List.append_nil,Trm.addV_nil];exact HC,Lib.hid (Turned.refl _ _)⟩
 case round=>
  obtain ⟨j,rfl,rfl,hj,HA,HT⟩:=hrel
  by_cases hjl:j<lv
  ·obtain ⟨x,hx⟩:∃x,v[j]?=some x:=⟨_,List.getElem?_eq_getElem (by rw[←HL.out];exact hjl)⟩
   obtain ⟨b,off,cs,ho,_,hcl,hcell,hir⟩:=HV.out.at (HT.out.below HSB.out hB) hx
   subst ho
   obtain ⟨rfl,hxi⟩:=hir
   have e0:=hcell 0 _ rfl
   simp only[Nat.add_zero,Nat.mul_one] at e0
   have HTK:=Lib.hid (show v.take (j+1)=v.take j++[x] by rw[List.take_add_one,hx];rfl)
   have HI:=Lib.hid hxi
   have c5:=HA.out.box.cell 5 rfl
   have cl:=HA.out.box.lt
   have HNB:=Lib.hid (newB_snoc (x:=x) HA.out.new)
   have hrm:=HA.out.room
   have HBAD:=Lib.hid (fun (h:Trm.newB (fun _=>false) (l++v.take j++[x])=false)=>show r=false from by
    have h2:=newB_prefix (m:=v.drop (j+1)) h
    have e:l++v.take j++[x]++v.drop (j+1)=l++v:=by rw[List.append_assoc l,←HTK.out,List.append_assoc,List.take_append_drop]
    rw[e] at h2
    rw[←HR.out,h2])
   clear hx hcell hxi
   by_cases hx0:x<0
   ·obtain rfl:r=false:=HBAD.out (by rw[HNB.out,decide_eq_false (by omega)];rfl)
    go_wp2_with fail
    go_ret
    exact ⟨rfl,HT.out,fun h=>by simp at h,fun _=>HA.out.bad⟩
   ·have fx0:decide (x<0)=false:=decide_eq_false hx0
    by_cases hx1:1000000<x
    ·obtain rfl:r=false:=HBAD.out (by rw[HNB.out,decide_eq_false (show ¬x≤1000000 by omega)];simp)
     go_wp2_with fail
     go_ret
     exact ⟨rfl,HT.out,fun h=>by simp at h,fun _=>HA.out.bad⟩
    ·have fx1:decide (1000000<x)=false:=decide_eq_false hx1
     obtain ⟨q,hq⟩:∃q,setOf (l++v.take j) x=q:=⟨_,rfl⟩
     have HLK:=Lib.hid HA.out.bound
     have hnb:=HNB.out
     rw[hq,decide_eq_true (show 0≤x by omega),decide_eq_true (show x≤1000000 by omega),Bool.true_and,Bool.true_and] at hnb
     cases q with
     | true=>
      obtain rfl:r=false:=HBAD.out (by rw[hnb];rfl)
      go_wp2_with (at_lookup;refine wpList_lookVB rfl _ _ rfl bb _ (setOf (l++v.take j)) rfl HLK.out x rfl HI.out ?_;rw[hq])
      go_ret
      exact ⟨rfl,HT.out,fun h=>by simp at h,fun _=>HA.out.bad⟩
     | false=>
      have hms:cb≠bb:=map_box_ne HA.out.bound HA.out.box
      have hmt:cb≠sb:=map_box_ne HA.out.scope HA.out.box
      have HNX:=Lib.hid (show Trm.newB (fun _=>false) (l++v.take (j+1))=true from by rw[HTK.out,←List.append_assoc,hnb];rfl)
      have HQ:=Lib.hid hq
      clear hnb HBAD hq HNB
      go_wp2_with (first
       | (at_lookup;refine wpList_lookVB rfl _ _ rfl bb _ (setOf (l++v.take j)) rfl HLK.out x rfl HI.out ?_;rw[HQ.out])
       | (refine wpList_entryVB rfl _ _ rfl bb _ (setOf (l++v.take j)) rfl HLK.out (by omega) x rfl HI.out ?_;intro w1 v0 st HLD)
       | (refine wpList_storeVB rfl _ _ _ rfl bb _ (setOf (l++v.take j)) x _ true HLD rfl rfl rfl ?_;intro w2 hm2 hg2;have HM2:=Lib.hid hm2;have HG2:=Lib.hid hg2;have HS2:=Lib.hid (HA.out.scope.same (hg2.block sb HA.out.scope.lt (fun e=>HA.out.ne (by simpa using e.symm))));clear hm2 hg2)
       | (at_mapUpdate;refine wpList_putVB rfl _ _ _ rfl sb _ (Trm.addV sc (v.take j)) rfl HS2.out (by omega) x true rfl rfl HI.out ?_;intro w3 hm3 hg3;have HM3:=Lib.hid hm3;have HG3:=Lib.hid hg3;clear hm3 hg3))
      have hm3:=HM3.out
      have hg3:=HG3.out
      have HN:=Lib.hid (show ChkS w3 cb bb sb nc nk fr size (l++v.take (j+1)) (Trm.addV sc (v.take (j+1))) from by
       have hne:=HA.out.ne
       have hl1:(l++v.take (j+1)).length=(l++v.take j).length+1:=by rw[HTK.out];simp only[List.length_append,List.length_cons,List.length_nil];omega
       refine ⟨(hg3.block cb (Nat.lt_of_lt_of_le HA.out.box.lt HG2.out.size) (fun e=>hmt (by simpa using e))).trans ((HG2.out.block cb HA.out.box.lt (fun e=>hms (by simpa using e))).trans HA.out.box),?_,?_,HNX.out,hne⟩
       ·rw[hl1,HTK.out,←List.append_assoc,setOf_snoc]
        exact HM2.out.same (hg3.block bb HM2.out.lt (fun e=>hne (by simpa using e)))
       ·rw[hl1,HTK.out,addV_snoc]
        exact hm3)
      have HT3:=Lib.hid (HT.out.next ((Turned.grown (S:=S3 cb bb sb) HG2.out (fun b hb=>.inr (.inl (by simpa using hb.symm)))).next (Turned.grown hg3 (fun b hb=>.inr (.inr (by simpa using hb.symm))))))
      clear hm3 hg3
      go_roundg (lv-(j+1))
      case measure=>omega
      case rel=>exact ⟨j+1,rfl,by go_num,by omega,HN,HT3⟩
  ·obtain rfl:j=lv:=by omega
   have HE:=Lib.hid (show v.take j=v from List.take_of_length_le (by rw[←HL.out];exact Nat.le_refl _))
   obtain rfl:r=true:=by
    have:=HA.out.new
    rw[HE.out] at this
    rw[←HR.out,this]
   go_wp2_with fail
   go_ret
   exact ⟨rfl,HT.out,fun _=>by rw[←HE.out];simpa using HA.out,fun h=>by simp at h⟩
end
end Go.Proofs.YtgbibibmpoekiaaGreatDoor
