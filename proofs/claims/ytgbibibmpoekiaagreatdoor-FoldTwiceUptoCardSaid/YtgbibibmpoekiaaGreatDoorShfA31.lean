/-
  What the proofs lean on: FwC.
-/
import Derived.Test.YtgbibibmpoekiaaGreatDoorShfA07
import Derived.Test.YtgbibibmpoekiaaGreatDoorShfA09
import Derived.Test.YtgbibibmpoekiaaGreatDoorShfA30
set_option maxRecDepth 100000
set_option maxHeartbeats 16000000
namespace Go.Proofs.YtgbibibmpoekiaaGreatDoor
section
open Go Go.RowKit
structure FoE (b0:Nat) (W:World) (S:Nat→Prop) (fb base:Nat) (sl:Value) (cs:List Dat):Prop where
 fo:FoS W S fb base sl cs
 env:EnvAt b0 W
 lf:b0≤fb
 lb:b0≤base
 good:∀d∈cs,Dat.right d 0=true∧Dat.bulk d≤1048576
 few:cs.length≤100000
theorem FoE.below {b0:Nat} {W W':World} {S:Nat→Prop} {fb base:Nat} {sl:Value} {cs:List Dat} (h:FoE b0 W S fb base sl cs) (hb:Below W.heap.size W W'):FoE b0 W' S fb base sl cs:=
 ⟨h.fo.below hb,h.env.kept (hb.mono (Nat.le_trans h.lf (Nat.le_of_lt h.fo.box.lt))),h.lf,h.lb,h.good,h.few⟩
theorem FoE.text {b0:Nat} {W:World} {S:Nat→Prop} {fb base:Nat} {sl:Value} {cs:List Dat} (h:FoE b0 W S fb base sl cs) {d:Dat} (hd:d∈cs):(Dat.text d false).length≤140737488355328:=by
 have h1:=(h.good d hd).2
 have h2:=Dat.text_len d false
 omega
theorem full_false {d:Dat} (h:Dat.right d 0=true):((Dat.full d==[35,102])=decide (d.kind=1∧d.n=0)):=by
 rw[Dat.full,if_pos h,Bool.eq_iff_iff,beq_iff_eq,decide_eq_true_eq]
 exact Fd.text_false h
theorem choice_eq (F:Int→List Dat→Option Dat) (n:Int) (v:List Int) (a b c:Trm) (cs:List Dat) (d:Dat) (h:a.op=0→cs[a.n.toNat]?=some d):Fd.post F 3 n v [a,b,c] cs=((if Fd.value a=true then (if (decide (a.op=0)&&decide (d.kind=1∧d.n=0))=true then c else b) else .mk 3 n v [a,b,c]),cs):=by
 unfold Fd.post
 rw[if_neg (by decide),if_pos rfl]
 by_cases h0:a.op=0
 ·simp only[h0,if_true,h h0]
  have:Fd.value a=true:=by simp[Fd.value,h0]
  rw[if_pos this]
  simp only[decide_true,Bool.true_and,decide_eq_true_eq]
  split<;>rfl
 ·simp only[h0,if_false]
  by_cases h1:a.op=11∨a.op=4
  ·rw[if_pos h1]
   have:Fd.value a=true:=by simp[Fd.value,h1]
   rw[if_pos this];simp
  ·rw[if_neg h1]
   have:¬Fd.value a=true:=by simp[Fd.value,h0];omega
   rw[if_neg this]
theorem fvalue_to (x:Trm) (ov ot:Option Addr) (lv cv lt ct:Nat) (w:World):Calls Tryz.prog 44 #[.agg #[.int .i64 x.op,.int .i64 x.n,.slice ov lv cv,.slice ot lt ct]] w fun e w'=>e=.returned (.bool (Fd.value x))∧Below w.heap.size w w':=fvalue_any _ _ _ _ _ _ _ _ w
theorem fchoice_any (F:Int→List Dat→Option Dat) {b0:Nat} {S:Nat→Prop} {fb base:Nat} {sl:Value} {cs:List Dat} (n:Int) (v:List Int) (a b c:Trm) (c0 c1 c2 c3:Value) (w:World) (hf:FoE b0 w S fb base sl cs) (hx:TrmR (hide w (FH S fb sl)) w.heap.size (.mk 3 n v [a,b,c]) [c0,c1,c2,c3]) (ha:a.op=0→0≤a.n∧a.n<cs.length) :
  Calls Tryz.prog 37 #[.pointer (some ⟨fb,0,none⟩),.agg #[c0,c1,c2,c3]] w (TmPost (FH S fb sl) (Fd.post F 3 n v [a,b,c] cs).1 w):=by
 have hlt:=hf.fo.lt
 obtain ⟨d,hd⟩:∃d,a.op=0→cs[a.n.toNat]?=some d:=by
  by_cases h0:a.op=0
  ·have:=ha h0
   exact ⟨cs[a.n.toNat]'(by omega),fun _=>List.getElem?_eq_getElem (by omega)⟩
  ·exact ⟨Prims.zeroD,fun h=>absurd h h0⟩
 rw[choice_eq F n v a b c cs d hd]
 obtain ⟨y,hy⟩:∃y,(if Fd.value a=true then (if (decide (a.op=0)&&decide (d.kind=1∧d.n=0))=true then c else b) else .mk 3 n v [a,b,c])=y:=⟨_,rfl⟩
 rw[hy]
 have HY:=Lib.hid hy
 obtain ⟨vs,ts,he,_,hn,hv,ht⟩:=trmR_iff.1 hx
 simp only[List.cons.injEq,and_true] at he
 obtain ⟨rfl,rfl,rfl,rfl⟩:=he
 obtain ⟨ov,lv,cv,rfl⟩:=hv.form
 obtain ⟨ot,lt,ct,rfl⟩:=SlC.form ht
 obtain rfl:lt=3:=(SlC.lens ht).1
 obtain ⟨tb,tof,es,he,_,hcl,hcell,har⟩:=SlC.at ht (Below.refl _ _) (j:=0) (x:=a) rfl
 subst he
 obtain ⟨aov,alv,acv,aot,alt,act,rfl,_,_,_,_⟩:=trmR_form har
 have e0:=(hide_some (hcell 0 _ rfl)).2
 have e1:=(hide_some (hcell 1 _ rfl)).2
 have e2:=(hide_some (hcell 2 _ rfl)).2
 have e3:=(hide_some (hcell 3 _ rfl)).2
 simp only[Nat.add_zero,Nat.zero_mul] at e0 e1 e2 e3
 have el:=cell_lt e0
 have HT:=Lib.hid ht
 have HX:=Lib.hid hx
 have HF:=Lib.hid hf
 have HLT:=Lib.hid hlt
 have HD:=Lib.hid hd
 have HA:=Lib.hid ha
 obtain ⟨q,hq⟩:∃q,Fd.value a=q:=⟨_,rfl⟩
 have HQ:=Lib.hid hq
 have HCV:=Lib.hid (fun W=>fvalue_to a aov aot alv acv alt act W)
 rw[hq] at HCV
 clear hx hf hlt hd ha hcell hcl har hq hv hy
 go_enter Tryz.func37,Tryz.ntmps37
 go_upto_region 2 with fail
 obtain ⟨W3,hW3⟩:∃W3,((w.alloc (.cells #[.int .i64 3,.int .i64 n,.slice ov lv cv,.slice (some ⟨tb,tof,none⟩) 3 ct] 26)).alloc (.cells #[.int .i64 0,.int .i64 0,.slice none 0 0,.slice none 0 0] 26)).alloc (.cells #[.int .i64 a.op,.int .i64 a.n,.slice aov alv acv,.slice aot alt act] 26)=W3:=⟨_,rfl⟩
 have hb3:Below w.heap.size w W3:=by rw[←hW3];exact (((Below.refl _ _).alloc (Nat.le_refl _) _).alloc (by simp) _).alloc (by simp;omega) _
 have HX3:=Lib.hid (show BoxL W3 w.heap.size 26 [.int .i64 3,.int .i64 n,.slice ov lv cv,.slice (some ⟨tb,tof,none⟩) 3 ct] from by rw[←hW3];exact ((BoxL.new rfl _ _).alloc _).alloc _)
 have HR3:=Lib.hid (show BoxL W3 (w.heap.size+1) 26 [.int .i64 0,.int .i64 0,.slice none 0 0,.slice none 0 0] from by rw[←hW3];exact (BoxL.new (by simp) _ _).alloc _)
 have HA3:=Lib.hid (show BoxL W3 (w.heap.size+1+1) 26 [.int .i64 a.op,.int .i64 a.n,.slice aov alv acv,.slice aot alt act] from by rw[←hW3];exact BoxL.new (by simp) _ _)
 have HB3:=Lib.hid hb3
 rw[hW3]
 clear hb3 hW3 e0 e1 e2 e3 el
 have g0:=HA3.out.cell 0 rfl
 have g1:=HA3.out.cell 1 rfl
 have g2:=HA3.out.cell 2 rfl
 have g3:=HA3.out.cell 3 rfl
 have gl:=HA3.out.lt
 go_wp2_with fail
 refine (HCV.out _).mono ?_
 rintro e W4 ⟨rfl,hb4⟩
 have HB4:=Lib.hid (HB3.out.trans (hb4.mono HB3.out.size))
 have HX4:=Lib.hid (HX3.out.keep hb4)
 have HR4:=Lib.hid (HR3.out.keep hb4)
 have HA4:=Lib.hid (HA3.out.keep hb4)
 clear hb4 g0 g1 g2 g3 gl HX3 HR3 HA3 HCV HB3
 have r0:=HR4.out.cell 0 rfl
 have r1:=HR4.out.cell 1 rfl
 have r2:=HR4.out.cell 2 rfl
 have r3:=HR4.out.cell 3 rfl
 have k0:=HR4.out.free 0
 have k1:=HR4.out.free 1
 have k2:=HR4.out.free 2
 have k3:=HR4.out.free 3
 have rl:=HR4.out.lt
 have x0:=HX4.out.cell 0 rfl
 have x1:=HX4.out.cell 1 rfl
 have x2:=HX4.out.cell 2 rfl
 have x3:=HX4.out.cell 3 rfl
 have xl:=HX4.out.lt
 cases q with
 | false=>
  have HBF:=Lib.hid (set4_box HR4.out (.int .i64 3) (.int .i64 n) (.slice ov lv cv) (.slice (some ⟨tb,tof,none⟩) 3 ct))
  have q0:=HBF.out.cell 0 rfl
  have q1:=HBF.out.cell 1 rfl
  have q2:=HBF.out.cell 2 rfl
  have q3:=HBF.out.cell 3 rfl
  have HBB:=Lib.hid (set4_below W4 (b:=w.heap.size+1) (n:=w.heap.size) (by omega) (.int .i64 3) (.int .i64 n) (.slice ov lv cv) (.slice (some ⟨tb,tof,none⟩) 3 ct))
  go_wp2_with fail
  refine bodyPost_ret (v:=.agg #[.int .i64 3,.int .i64 n,.slice ov lv cv,.slice (some ⟨tb,tof,none⟩) 3 ct]) (by simp[results,Tryz.f37,go_sem,q0,q1,q2,q3]) rfl ?_
  refine ⟨_,_,_,_,_,_,_,_,rfl,?_,HB4.out.trans HBB.out⟩
  rw[←HY.out,if_neg (by rw[HQ.out];simp)]
  exact HX.out.shown (shown_more (HB4.out.trans HBB.out) fun b h=>.inl h) (HB4.out.trans HBB.out).size
 | true=>
  obtain ⟨q,hq⟩:∃q,(decide (a.op=0)&&decide (d.kind=1∧d.n=0))=q:=⟨_,rfl⟩
  have HQ2:=Lib.hid hq
  have HFIN:=Lib.hid (show [a,b,c][if q=true then 2 else 1]?=some y from by
   rw[←HY.out,if_pos HQ.out,hq]
   cases q<;>rfl)
  clear hq r0 r1 r2 r3 k0 k1 k2 k3 rl x0 x1 x2 x3 xl
  go_upto_region 4 with fail
  go_cut [28] (fun c wx=>c=.bool q∧Below W4.heap.size W4 wx)
  case first=>as_aux_lemma=>
   by_cases h0:a.op=0
   ·obtain ⟨hn0,hn1⟩:=HA.out h0
    obtain ⟨j,hj⟩:∃j:Nat,a.n=(j:Int):=⟨a.n.toNat,by omega⟩
    have hdj:cs[j]?=some d:=by have:=HD.out h0;rwa[show a.n.toNat=j from by omega] at this
    obtain ⟨osl,lsl,csl,hsl,hcap,hlen⟩:=HF.out.fo.row.form
    subst hsl
    obtain ⟨g,dk,dn,dd,ds,dp,dln,dcp,rfl,d0,d1,d2,d3,d4,hrep⟩:=HF.out.fo.row.elem hdj
    have hg:=cell_lt d0
    have hfb:=HF.out.fo.box.lt
    have hmem:d∈cs:=List.mem_of_getElem? hdj
    have HTX:=Lib.hid (fun WW (hb:Below w.heap.size w WW)=>dtext_any d _ w.heap.size WW ((hrep.unhide).kept hb) hb.size ((HF.out.env.kept (hb.mono (Nat.le_trans HF.out.lf (Nat.le_of_lt hfb)))).1) (fun _=>HF.out.text hmem))
    have HQQ:=Lib.hid (show ((Dat.full d)==[35,102])=q from by
     rw[full_false (HF.out.good d hmem).1,←HQ2.out,decide_eq_true h0,Bool.true_and])
    have HDR:=Lib.hid ((Below.refl W4.heap.size W4).drew)
    refine wp_region_quiet_all (Below W4.heap.size W4) (by kernel_rfl) (by kernel_rfl) HDR.out ?_
    intro T0 _ WW HWW HWW2
    have z0:∀t,(WW t).cell? _=_:=fun t=>((HWW t).cell (p:=⟨w.heap.size+1+1,0,none⟩) HA4.out.lt).trans ((HA4.out.cell 0 rfl).trans (by rw[h0]))
    have z1:∀t,(WW t).cell? _=_:=fun t=>((HWW t).cell (p:=⟨w.heap.size+1+1,1,none⟩) HA4.out.lt).trans ((HA4.out.cell 1 rfl).trans (by rw[hj]))
    have y0:∀t,(WW t).cell? _=_:=fun t=>((HB4.out.trans ((HWW t).mono HB4.out.size)).cell (p:=⟨fb,0,none⟩) hfb).trans (HF.out.fo.box.cell 0 rfl)
    have u0:∀t,(WW t).cell? _=_:=fun t=>((HB4.out.trans ((HWW t).mono HB4.out.size)).cell (p:=⟨g,j*5,none⟩) hg).trans d0
    have u1:∀t,(WW t).cell? _=_:=fun t=>((HB4.out.trans ((HWW t).mono HB4.out.size)).cell (p:=⟨g,j*5+1,none⟩) hg).trans d1
    have u2:∀t,(WW t).cell? _=_:=fun t=>((HB4.out.trans ((HWW t).mono HB4.out.size)).cell (p:=⟨g,j*5+2,none⟩) hg).trans d2
    have u3:∀t,(WW t).cell? _=_:=fun t=>((HB4.out.trans ((HWW t).mono HB4.out.size)).cell (p:=⟨g,j*5+3,none⟩) hg).trans d3
    have u4:∀t,(WW t).cell? _=_:=fun t=>((HB4.out.trans ((HWW t).mono HB4.out.size)).cell (p:=⟨g,j*5+4,none⟩) hg).trans d4
    have hjl:j<lsl:=by have:=List.getElem?_eq_some_iff.1 hdj;obtain ⟨h,_⟩:=this;omega
    have HWH:=Lib.hid HWW
    have HW2:=Lib.hid HWW2
    clear HWW HWW2 d0 d1 d2 d3 d4 hrep hmem hdj hlen hcap hn0 hn1 h0 hj
    repeat (go_big_quiet_step (first | (go_at_call 70;refine (HTX.out _ (HB4.out.trans ((HWH.out _).mono HB4.out.size))).mono ?_;rintro e1 w1 ⟨rfl,hb⟩;exact ⟨rfl,HW2.out _ (Below.next (HWH.out _) hb)⟩)))
    rw[HQQ.out]
    refine wpQuiet_nil ?_
    intro t
    have HBB:=Lib.hid (HWH.out t)
    clear z0 z1 y0 u0 u1 u2 u3 u4
    go_wp2_with fail
    go_meet
    exact ⟨rfl,HBB.out⟩
   ·have h0b:(a.op==0)=false:=by simp[h0]
    have hq:q=false:=by rw[←HQ2.out,decide_eq_false h0,Bool.false_and]
    subst hq
    have HDR:=Lib.hid ((Below.refl W4.heap.size W4).drew)
    refine wp_region_quiet_all (Below W4.heap.size W4) (by kernel_rfl) (by kernel_rfl) HDR.out ?_
    intro T0 _ WW HWW HWW2
    have z0:∀t,(WW t).cell? _=_:=fun t=>((HWW t).cell (p:=⟨w.heap.size+1+1,0,none⟩) HA4.out.lt).trans (HA4.out.cell 0 rfl)
    have HWH:=Lib.hid HWW
    have HW2:=Lib.hid HWW2
    clear HWW HWW2
    repeat (go_big_quiet_step (fail))
    refine wpQuiet_nil ?_
    intro t
    have HBB:=Lib.hid (HWH.out t)
    clear z0
    go_wp2_with fail
    go_meet
    exact ⟨rfl,HBB.out⟩
  case rest=>
   obtain ⟨rfl,hbx⟩:=hcut
   have HBX:=Lib.hid (HB4.out.trans (hbx.mono HB4.out.size))
   have HR5:=Lib.hid (HR4.out.keep hbx)
   have HX5:=Lib.hid (HX4.out.keep hbx)
   clear hbx HR4 HX4 HA4 HB4
   have r0:=HR5.out.cell 0 rfl
   have r1:=HR5.out.cell 1 rfl
   have r2:=HR5.out.cell 2 rfl
   have r3:=HR5.out.cell 3 rfl
   have k0:=HR5.out.free 0
   have k1:=HR5.out.free 1
   have k2:=HR5.out.free 2
   have k3:=HR5.out.free 3
   have rl:=HR5.out.lt
   have x3:=HX5.out.cell 3 rfl
   have xl:=HX5.out.lt
   cases q with
   | false=>
    obtain ⟨tb',tof',es',he,hb0,hcl,hcell,har⟩:=SlC.at HT.out (Below.refl _ _) (j:=1) (x:=b) rfl
    simp only[Option.some.injEq,Addr.mk.injEq,and_true] at he
    obtain ⟨rfl,rfl⟩:=he
    obtain ⟨zov,zlv,zcv,zot,zlt,zct,rfl,_⟩:=trmR_form har
    have hy:b=y:=by have:=HFIN.out;simpa using this
    subst hy
    have e0:=(HBX.out.cell (p:=⟨tb,_,none⟩) hb0).trans (hide_some (hcell 0 _ rfl)).2
    have e1:=(HBX.out.cell (p:=⟨tb,_,none⟩) hb0).trans (hide_some (hcell 1 _ rfl)).2
    have e2:=(HBX.out.cell (p:=⟨tb,_,none⟩) hb0).trans (hide_some (hcell 2 _ rfl)).2
    have e3:=(HBX.out.cell (p:=⟨tb,_,none⟩) hb0).trans (hide_some (hcell 3 _ rfl)).2
    simp only[Nat.add_zero,Nat.one_mul] at e0 e1 e2 e3
    have el:=cell_lt e0
    have HAR:=Lib.hid har
    have HBF:=Lib.hid (set4_box HR5.out (.int .i64 b.op) (.int .i64 b.n) (.slice zov zlv zcv) (.slice zot zlt zct))
    have q0:=HBF.out.cell 0 rfl
    have q1:=HBF.out.cell 1 rfl
    have q2:=HBF.out.cell 2 rfl
    have q3:=HBF.out.cell 3 rfl
    have HBB:=Lib.hid (set4_below wc (b:=w.heap.size+1) (n:=w.heap.size) (by omega) (.int .i64 b.op) (.int .i64 b.n) (.slice zov zlv zcv) (.slice zot zlt zct))
    clear hcell har hcl hb0
    go_wp2_with fail
    refine bodyPost_ret (v:=.agg #[.int .i64 b.op,.int .i64 b.n,.slice zov zlv zcv,.slice zot zlt zct]) (by simp[results,Tryz.f37,go_sem,q0,q1,q2,q3]) rfl ?_
    exact ⟨_,_,_,_,_,_,_,_,rfl,HAR.out.shown (shown_more (HBX.out.trans HBB.out) fun b h=>.inl h) (HBX.out.trans HBB.out).size,HBX.out.trans HBB.out⟩
   | true=>
    obtain ⟨tb',tof',es',he,hb0,hcl,hcell,har⟩:=SlC.at HT.out (Below.refl _ _) (j:=2) (x:=c) rfl
    simp only[Option.some.injEq,Addr.mk.injEq,and_true] at he
    obtain ⟨rfl,rfl⟩:=he
    obtain ⟨zov,zlv,zcv,zot,zlt,zct,rfl,_⟩:=trmR_form har
    have hy:c=y:=by have:=HFIN.out;simpa using this
    subst hy
    have e0:=(HBX.out.cell (p:=⟨tb,_,none⟩) hb0).trans (hide_some (hcell 0 _ rfl)).2
    have e1:=(HBX.out.cell (p:=⟨tb,_,none⟩) hb0).trans (hide_some (hcell 1 _ rfl)).2
    have e2:=(HBX.out.cell (p:=⟨tb,_,none⟩) hb0).trans (hide_some (hcell 2 _ rfl)).2
    have e3:=(HBX.out.cell (p:=⟨tb,_,none⟩) hb0).trans (hide_some (hcell 3 _ rfl)).2
    simp only[Nat.add_zero,Nat.reduceMul] at e0 e1 e2 e3
    have el:=cell_lt e0
    have HAR:=Lib.hid har
    have HBF:=Lib.hid (set4_box HR5.out (.int .i64 c.op) (.int .i64 c.n) (.slice zov zlv zcv) (.slice zot zlt zct))
    have q0:=HBF.out.cell 0 rfl
    have q1:=HBF.out.cell 1 rfl
    have q2:=HBF.out.cell 2 rfl
    have q3:=HBF.out.cell 3 rfl
    have HBB:=Lib.hid (set4_below wc (b:=w.heap.size+1) (n:=w.heap.size) (by omega) (.int .i64 c.op) (.int .i64 c.n) (.slice zov zlv zcv) (.slice zot zlt zct))
    clear hcell har hcl hb0
    go_wp2_with fail
    refine bodyPost_ret (v:=.agg #[.int .i64 c.op,.int .i64 c.n,.slice zov zlv zcv,.slice zot zlt zct]) (by simp[results,Tryz.f37,go_sem,q0,q1,q2,q3]) rfl ?_
    exact ⟨_,_,_,_,_,_,_,_,rfl,HAR.out.shown (shown_more (HBX.out.trans HBB.out) fun b h=>.inl h) (HBX.out.trans HBB.out).size,HBX.out.trans HBB.out⟩
end
end Go.Proofs.YtgbibibmpoekiaaGreatDoor
