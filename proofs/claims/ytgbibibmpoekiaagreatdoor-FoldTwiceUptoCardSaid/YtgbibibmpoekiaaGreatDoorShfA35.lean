/-
  What the proofs lean on: RegA, FwU.
-/
import Derived.Test.YtgbibibmpoekiaaGreatDoorShfA18
import Derived.Test.YtgbibibmpoekiaaGreatDoorShfA23
import Derived.Test.YtgbibibmpoekiaaGreatDoorShfA25
import Derived.Test.YtgbibibmpoekiaaGreatDoorShfA34
set_option maxRecDepth 100000
set_option maxHeartbeats 16000000
namespace Go.Proofs.YtgbibibmpoekiaaGreatDoor
section
open Go Go.RowKit
def ApR (H:Nat→Prop) (B hd:Nat) (vv rv tv:Value) (bb bo:Nat) (bc:List Value) (b:Trm) (r:List Trm) (listed:Array Bool) (i:Nat) (v:Value) (W:World):Prop:=match i with
 | 0=>v=.pointer (some ⟨hd,2,none⟩)
 | 1=>v=vv
 | 2=>v=rv
 | 3=>listed.getD 9 false=false→GrownT 26 W H B r v
 | 4=>v=.pointer (some ⟨hd,3,none⟩)
 | 5=>v=tv
 | 6=>v=.pointer (some ⟨bb,bo,none⟩)
 | 7=>v=.agg bc.toArray
 | 8=>∃b8,v=.slice (some ⟨b8,0,none⟩) 1 1∧B≤b8∧(listed.getD 9 false=false→BoxL W b8 26 bc)
 | 9=>∃o l' c,v=.slice o l' c∧GrownT 26 W H B (r++[b]) v
 | _=>True
section
variable {H : Nat → Prop} {B hd : Nat} {vv rv tv : Value} {bb bo : Nat} {bc : List Value} {b : Trm} {r : List Trm}
theorem apR_kept {listed listed':Array Bool} {j:Nat} {u:Value} {A W:World} (h:ApR H B hd vv rv tv bb bo bc b r listed j u A) (hb:Below A.heap.size A W) (hl:listed'.getD 9 false=false→listed.getD 9 false=false):ApR H B hd vv rv tv bb bo bc b r listed' j u W:=by
 match j with
 | 0=>exact h
 | 1=>exact h
 | 2=>exact h
 | 3=>exact fun h9=>(h (hl h9)).below hb
 | 4=>exact h
 | 5=>exact h
 | 6=>exact h
 | 7=>exact h
 | 8=>
  obtain ⟨b8,h1,h2,h3⟩:=h
  exact ⟨b8,h1,h2,fun h9=>(h3 (hl h9)).keep hb⟩
 | 9=>
  obtain ⟨o,l',c,h1,h2⟩:=h
  exact ⟨o,l',c,h1,h2.below hb⟩
 | j+10=>trivial
theorem apR_done {listed listed':Array Bool} {j:Nat} {u:Value} {A W:World} (h:ApR H B hd vv rv tv bb bo bc b r listed j u A) (hj:j≠9) (hl:listed'.getD 9 false=true):ApR H B hd vv rv tv bb bo bc b r listed' j u W:=by
 match j,hj with
 | 0,_=>exact h
 | 1,_=>exact h
 | 2,_=>exact h
 | 3,_=>exact fun h9=>by rw[hl] at h9;cases h9
 | 4,_=>exact h
 | 5,_=>exact h
 | 6,_=>exact h
 | 7,_=>exact h
 | 8,_=>
  obtain ⟨b8,h1,h2,h3⟩:=h
  exact ⟨b8,h1,h2,fun h9=>by rw[hl] at h9;cases h9⟩
 | 9,h9=>exact absurd rfl h9
 | j+10,_=>trivial
structure ApP (B:Nat) (wc:World) (listed:Array Bool) (a:Act) (W:World):Prop where
 below:Below B wc W
 l3:listed.getD 3 false=true→∀g,(a.tmps.getD 43 undef).ownBlock=some g→g<W.heap.size
 l8:listed.getD 8 false=true→∀g,(a.tmps.getD 48 undef).ownBlock=some g→g<W.heap.size
 ne:listed.getD 3 false=true→listed.getD 8 false=true→listed.getD 9 false=false→∀g,(a.tmps.getD 43 undef).ownBlock=some g→(a.tmps.getD 48 undef).ownBlock=some g→False
theorem ApP.other {B:Nat} {wc:World} {listed:Array Bool} {a:Act} {W W':World} {i d:Nat} {v:Value} (h:ApP B wc listed a W) (hd:d<a.tmps.size) (h43:d≠43) (h48:d≠48) (h3:i≠3) (h8:i≠8) (hb:Below W.heap.size W W') (hB:B≤W.heap.size):ApP B wc (listed.setIfInBounds i true) (a.put (some d) v) W':=by
 have e3:(listed.setIfInBounds i true).getD 3 false=listed.getD 3 false:=getD_set_ne false h3
 have e8:(listed.setIfInBounds i true).getD 8 false=listed.getD 8 false:=getD_set_ne false h8
 have t3:(a.put (some d) v).tmps.getD 43 undef=a.tmps.getD 43 undef:=by rw[put_getD hd,if_neg h43]
 have t8:(a.put (some d) v).tmps.getD 48 undef=a.tmps.getD 48 undef:=by rw[put_getD hd,if_neg h48]
 refine ⟨h.below.trans (hb.mono hB),?_,?_,?_⟩
 ·rw[e3,t3];exact fun h1 g hg=>Nat.lt_of_lt_of_le (h.l3 h1 g hg) hb.size
 ·rw[e8,t8];exact fun h1 g hg=>Nat.lt_of_lt_of_le (h.l8 h1 g hg) hb.size
 ·rw[e3,e8,t3,t8]
  intro h1 h2 h9 g
  refine h.ne h1 h2 ?_ g
  by_cases e:i=9
  ·subst e
   by_cases hl:9<listed.size
   ·simp[hl] at h9
   ·have:listed.getD 9 false=false:=by simp[hl]
    exact this
  ·rwa[getD_set_ne false e] at h9
end
end
section
open Go Go.RowKit
theorem foE_back2 {b0:Nat} {S:Nat→Prop} {fb base:Nat} {sl:Value} {cs:List Dat} {n:Nat} {W W':World} (hf:FoE b0 W (S2w S n) fb base sl cs) (ht:Turned (fun b=>b=n+1) W W') (hfb:fb<n) (hn:b0≤n) (hb:b0≤W.heap.size):FoE b0 W' S fb base sl cs:=by
 have h1:=hf.fo.turned ht (fun b _ h=>.inr ⟨by omega,by omega⟩) (by omega)
 exact ⟨⟨h1.box,h1.row.less (fun b h=>h.elim (fun h=>.inl (.inl h)) .inr) (Nat.le_refl _)⟩,hf.env.kept (ht.below (fun b h=>by omega) hb),hf.lf,hf.lb,hf.good,hf.few⟩
theorem FoPostE.boxed {cs':List Dat} {b0:Nat} {S:Nat→Prop} {fb base:Nat} {sl sl':Value} {p:Trm × List Dat} {w wc w':World} {o n:Int} {ov ot:Option Addr} {lv cv lt ct:Nat} (hf:FoE b0 w S fb base sl cs') (hb:Below w.heap.size w wc)
  (h1:FoE b0 w' (S2w S w.heap.size) fb base sl' p.2) (h2:TrmR (hide w' (FH (S2w S w.heap.size) fb sl')) w'.heap.size p.1 [.int .i64 o,.int .i64 n,.slice ov lv cv,.slice ot lt ct]) (h3:Turned (FT fb sl) wc w') (h4:∀g,sl'.ownBlock=some g→sl.ownBlock=some g∨wc.heap.size≤g) (q0 q1 q2 q3:Value) :
  FoPostE b0 S fb base sl p w (.returned (.agg #[.int .i64 o,.int .i64 n,.slice ov lv cv,.slice ot lt ct])) ((((w'.setCell ⟨w.heap.size+1,0,none⟩ q0).setCell ⟨w.heap.size+1,1,none⟩ q1).setCell ⟨w.heap.size+1,2,none⟩ q2).setCell ⟨w.heap.size+1,3,none⟩ q3):=by
 have ht4:=set4_turned w' (S:=fun b=>b=w.heap.size+1) (b:=w.heap.size+1) rfl q0 q1 q2 q3
 have hfl:=hf.fo.box.lt
 have hb0:b0≤w.heap.size:=Nat.le_trans hf.lf (Nat.le_of_lt hfl)
 refine ⟨_,_,_,_,_,_,_,_,sl',rfl,foE_back2 h1 ht4 hfl hb0 (Nat.le_trans hb0 (Nat.le_trans hb.size h3.size)),?_,((Turned.of_below (S:=FT fb sl) hb).next h3).trans ht4 (fun b hb h=>absurd h (by omega)),fun q hq=>(h4 q hq).imp id fun h=>Nat.le_trans hb.size h⟩
 exact h2.shown (Shown.trans (Shown.turned ht4 fun b _ h=>.inl (.inl (.inr ⟨by omega,by omega⟩))) (Shown.less _ fun b _ h=>h.elim (fun h=>.inl (h.elim (fun h=>.inl (.inl h)) .inr)) .inr)) ht4.size
theorem listed_dep {o:Oper} {listed:Array Bool} (hld:∀e∈o.after,Region.binds .any e=true→listed.getD e.on false=true) (j:Nat) (hB:(o.after.any fun e=>Region.binds .any e&&e.on==j)=true):listed.getD j false=true:=by
 rw[Array.any_eq_true'] at hB
 obtain ⟨e,he,h⟩:=hB
 simp only[Bool.and_eq_true,beq_iff_eq] at h
 rw[←h.2]
 exact hld e he h.1
theorem trmS_box {W:World} {S:Nat→Prop} {x:Trm} {c:List Value} {b8:Nat} (hb:BoxL W b8 26 c) (hn:¬S b8) (hx:TrmR (hide W S) W.heap.size x c):TrmS (hide W S) W.heap.size [x] (.slice (some ⟨b8,0,none⟩) 1 1):=by
 refine ⟨_,_,_,rfl,rfl,Nat.le_refl _,by omega,fun _=>⟨rfl,hb.lt⟩,fun i y hy=>?_⟩
 cases i with
 | zero=>
  obtain rfl:x=y:=by simpa using hy
  refine ⟨c,hx.len,fun j u hj=>?_,hx⟩
  rw[hide_other hn]
  have:=hb.cell j hj
  simpa using this
 | succ i=>simp at hy
theorem cloneG_any {H:Nat→Prop} (l:List Trm) (v:Value) (Wx:World) (hv:TrmS (hide Wx H) Wx.heap.size l v) (hH:∀b,H b→b<Wx.heap.size) (hm:l.length≤1000000) :
  Calls Tryz.prog 69 #[v] Wx fun e w'=>∃ox lx cx,e=.returned (.slice ox lx cx)∧GrownT 26 w' H Wx.heap.size l (.slice ox lx cx)∧Below Wx.heap.size Wx w':=by
 refine (cloneT_any l v Wx.heap.size Wx.heap.size Wx (hide Wx H) (SlC.cells hv (fun _ _ _ h=>(hide_some h).2) (Nat.le_refl _) fun _ _ _ h=>h) hm).mono ?_
 rintro e w' ⟨v',xs,rfl,h1,h2,⟨o,len,cap,rfl⟩,hb⟩
 refine ⟨o,len,cap,rfl,⟨fun b hb'=>Nat.lt_of_lt_of_le (hH b hb') hb.size,fun g hg hs=>?_,hb.size,xs,h1,h2.mono fun _ _ _ h=>h.shown (shown_more hb fun b hs=>?_) hb.size⟩,hb⟩
 ·have:=(h1.lt g hg).1;have:=hH g hs;omega
 ·rcases hs with hs | hs
  ·exact .inl hs
  ·exact .inr (h1.lt b hs).1
theorem fapp_any {b0:Nat} {S:Nat→Prop} {fb base:Nat} {sl:Value} {cs:List Dat} (n:Int) (v:List Int) (h:Trm) (r:List Trm) (c0 c1 c2 c3:Value) (w:World) (hf:FoE b0 w S fb base sl cs) (hx:TrmR (hide w (FH S fb sl)) w.heap.size (.mk 5 n v (h::r)) [c0,c1,c2,c3])
  (ha:∀x∈r,x.op=0→0≤x.n∧x.n<cs.length) (hcs:cs.length+1≤100000) (hbulk:∀data d,Fd.dataOf cs r=some data→Fd.foldF h.n data=some d→Dat.bulk d≤1048576)
  (h4:h.op=4→h.n=0→h.v.length=r.length→∃b,h.t=[b]) (hall:Trm.allL (h::r)≤1000) (hbn:(Trm.bndL (h::r)).length≤2000000) :
  Calls Tryz.prog 36 #[.pointer (some ⟨fb,0,none⟩),.agg #[c0,c1,c2,c3]] w (FoPostE b0 S fb base sl (Fd.post Fd.foldF 5 n v (h::r) cs) w):=by
 have hlt:=hf.fo.lt
 obtain ⟨y,hy⟩:∃y,Fd.post Fd.foldF 5 n v (h::r) cs=y:=⟨_,rfl⟩
 rw[hy]
 have HY:=Lib.hid hy
 obtain ⟨vs,ts,he,_,hn,hv,ht⟩:=trmR_iff.1 hx
 simp only[List.cons.injEq,and_true] at he
 obtain ⟨rfl,rfl,rfl,rfl⟩:=he
 obtain ⟨ov,lv,cv,rfl⟩:=hv.form
 obtain ⟨ot,lt,ct,rfl⟩:=SlC.form ht
 obtain ⟨tb,tof,es,he,htb,hcl,hcell,har⟩:=SlC.at ht (Below.refl _ _) (j:=0) (x:=h) rfl
 subst he
 obtain ⟨aov,alv,acv,aot,alt,act,rfl,_,hin,hiv,hit⟩:=trmR_form har
 have HIN:=Lib.hid hin
 have HIV:=Lib.hid hiv
 have HIT:=Lib.hid hit
 clear hin hiv hit
 obtain ⟨hl1,hl2,hl3⟩:=SlC.lens (show SlC (hide w (FH S fb sl)) w.heap.size 4 (TrmR (hide w (FH S fb sl)) w.heap.size) (h::r) (.slice (some ⟨tb,tof,none⟩) lt ct) from ht)
 have e0:=(hide_some (hcell 0 _ rfl)).2
 have e1:=(hide_some (hcell 1 _ rfl)).2
 have e2:=(hide_some (hcell 2 _ rfl)).2
 have e3:=(hide_some (hcell 3 _ rfl)).2
 simp only[Nat.add_zero,Nat.zero_mul] at e0 e1 e2 e3
 have el:=cell_lt e0
 have hlr:lt=r.length+1:=by rw[hl1];simp
 subst hlr
 have hl4:r.length+1≤100000:=by have:=Trm.allL_length (h::r);simp at this;omega
 have HT:=Lib.hid ht
 have HX:=Lib.hid hx
 have HF:=Lib.hid hf
 have HLT:=Lib.hid hlt
 have HA:=Lib.hid ha
 have HCS:=Lib.hid hcs
 have HBK:=Lib.hid hbulk
 have H4:=Lib.hid h4
 have HALL:=Lib.hid hall
 have HBN:=Lib.hid hbn
 have HAR:=Lib.hid har
 clear hx hf hlt ha hcs hbulk h4 hall hbn hcell hcl har hv hy hl1
 go_enter Tryz.func36,Tryz.ntmps36
 go_upto_region 1 with fail
 obtain ⟨W2,hW2⟩:∃W2,(w.alloc (.cells #[.int .i64 5,.int .i64 n,.slice ov lv cv,.slice (some ⟨tb,tof,none⟩) (r.length+1) ct] 26)).alloc (.cells #[.int .i64 0,.int .i64 0,.slice none 0 0,.slice none 0 0] 26)=W2:=⟨_,rfl⟩
 have hb2:Below w.heap.size w W2:=by rw[←hW2];exact (Below.one w _).trans ((Below.one _ _).mono (by simp))
 have hs2:W2.heap.size=w.heap.size+2:=by rw[←hW2];simp
 have HX2:=Lib.hid (show BoxL W2 w.heap.size 26 [.int .i64 5,.int .i64 n,.slice ov lv cv,.slice (some ⟨tb,tof,none⟩) (r.length+1) ct] from by rw[←hW2];exact (BoxL.new rfl _ _).alloc _)
 have HR2:=Lib.hid (show BoxL W2 (w.heap.size+1) 26 [.int .i64 0,.int .i64 0,.slice none 0 0,.slice none 0 0] from by rw[←hW2];exact BoxL.new (by simp) _ _)
 have HB2:=Lib.hid hb2
 have HS2:=Lib.hid hs2
 rw[hW2]
 have HCE:=Lib.hid (show W2.cell? ⟨tb,tof,none⟩=some (.int .i64 h.op)∧W2.cell? ⟨tb,tof+1,none⟩=some (.int .i64 h.n)∧W2.cell? ⟨tb,tof+2,none⟩=some (.slice aov alv acv)∧W2.cell? ⟨tb,tof+3,none⟩=some (.slice aot alt act)∧tb<W2.heap.size from
  ⟨(hb2.cell (p:=⟨tb,tof,none⟩) el).trans e0,(hb2.cell (p:=⟨tb,tof+1,none⟩) el).trans e1,(hb2.cell (p:=⟨tb,tof+2,none⟩) el).trans e2,(hb2.cell (p:=⟨tb,tof+3,none⟩) el).trans e3,Nat.lt_of_lt_of_le el hb2.size⟩)
 clear hW2 hb2 hs2 e0 e1 e2 e3 el
 go_cut [5,6] (fun p s wx=>p=.pointer (some ⟨w.heap.size+2,0,none⟩)∧(∃(o':Option Addr) (c':Nat),s=.slice o' r.length c'∧Hid (TrmS (hide w (FH S fb sl)) w.heap.size r (.slice o' r.length c')))∧Hid (Below W2.heap.size W2 wx)∧Hid (BoxL wx (w.heap.size+2) 26 [.int .i64 h.op,.int .i64 h.n,.slice aov alv acv,.slice aot alt act]))
 case first=>as_aux_lemma=>
  obtain ⟨e0,e1,e2,e3,el⟩:=HCE.out
  have x3:=HX2.out.cell 3 rfl
  have xl:=HX2.out.lt
  by_cases hc1:ct=1
  ·obtain rfl:r=[]:=List.eq_nil_of_length_eq_zero (by omega)
   subst hc1
   go_region
   go_wp2_with fail
   go_meet
   refine ⟨by rw[HS2.out],⟨_,_,rfl,Lib.hid ⟨_,_,_,rfl,rfl,by omega,by omega,?_⟩⟩,Lib.hid (Below.drew (Below.one W2 _)),Lib.hid (by rw[←HS2.out];exact (BoxL.new rfl _ _:BoxL _ _ _ _))⟩
   exact ⟨fun h=>absurd rfl h,fun i x h=>by simp at h⟩
  ·go_region
   go_wp2_with fail
   go_meet
   refine ⟨by rw[HS2.out],⟨_,_,rfl,Lib.hid ?_⟩,Lib.hid (Below.drew (Below.one W2 _)),Lib.hid (by rw[←HS2.out];exact (BoxL.new rfl _ _:BoxL _ _ _ _))⟩
   have h9:SlC (hide w (FH S fb sl)) w.heap.size 4 (TrmR (hide w (FH S fb sl)) w.heap.size) r (.slice (some ⟨tb,tof+4,none⟩) r.length (ct-1)):=by
    have:=SlC.drops (n:=1) HT.out (by omega)
    simpa using this
   exact h9
 case rest=>
  obtain ⟨rfl,⟨o',c',rfl,HTR⟩,HBC,HHD⟩:=hcut
  have HX3:=Lib.hid (HX2.out.keep HBC.out)
  have HR3:=Lib.hid (HR2.out.keep HBC.out)
  have hbc:Below w.heap.size w wc:=HB2.out.trans (HBC.out.mono HB2.out.size)
  have HBW:=Lib.hid hbc
  have hz:w.heap.size+2≤wc.heap.size:=by have:=HBC.out.size;rw[HS2.out] at this;exact this
  have HF2:=Lib.hid (foE_two HF.out hbc hz)
  have HTR2:=Lib.hid (TrmS.shown HTR.out (shown_more hbc (S':=FH (S2w S w.heap.size) fb sl) fun b hb=>fh_two hb) hbc.size)
  clear HX2 HR2 HB2 HS2 HCE hbc
  have g0:=HHD.out.cell 0 rfl
  have g1:=HHD.out.cell 1 rfl
  have g2:=HHD.out.cell 2 rfl
  have g3:=HHD.out.cell 3 rfl
  have gl:=HHD.out.lt
  by_cases h11:h.op=11
  ·have h11b:(h.op==11)=true:=by simp[h11]
   have HYE:=Lib.hid (show y=Fd.prim Fd.foldF h.n r cs from by rw[←HY.out];unfold Fd.post;rw[if_pos rfl];simp only[h11,if_true])
   rw[h11] at g0
   go_wp2_with fail
   refine (fprim_any h.n r o' r.length c' wc HF2.out HTR2.out HIN.out (by omega) HA.out HCS.out HBK.out).mono ?_
   rintro e w' ⟨o2,n2,ov2,ot2,lv2,cv2,lt2,ct2,sl2,rfl,p1,p2,p3,p4⟩
   have HRB:=Lib.hid (p3.box HR3.out (fun e=>by
    rcases e with e | e
    ·have:=HF.out.fo.box.lt;omega
    ·have:=(HF.out.fo.row.block e).2;omega))
   have P1:=Lib.hid p1
   have P2:=Lib.hid p2
   have P3:=Lib.hid p3
   have P4:=Lib.hid p4
   clear p1 p2 p3 p4 g0 g1 g2 g3 gl
   have r0:=HRB.out.cell 0 rfl
   have r1:=HRB.out.cell 1 rfl
   have r2:=HRB.out.cell 2 rfl
   have r3:=HRB.out.cell 3 rfl
   have k0:=HRB.out.free 0
   have k1:=HRB.out.free 1
   have k2:=HRB.out.free 2
   have k3:=HRB.out.free 3
   have rl:=HRB.out.lt
   have HBF:=Lib.hid (set4_box HRB.out (.int .i64 o2) (.int .i64 n2) (.slice ov2 lv2 cv2) (.slice ot2 lt2 ct2))
   have q0:=HBF.out.cell 0 rfl
   have q1:=HBF.out.cell 1 rfl
   have q2:=HBF.out.cell 2 rfl
   have q3:=HBF.out.cell 3 rfl
   go_wp2_with fail
   refine bodyPost_ret (v:=.agg #[.int .i64 o2,.int .i64 n2,.slice ov2 lv2 cv2,.slice ot2 lt2 ct2]) (by simp[results,Tryz.f36,go_sem,q0,q1,q2,q3]) rfl ?_
   rw[HYE.out]
   exact FoPostE.boxed HF.out HBW.out P1.out P2.out P3.out P4.out _ _ _ _
  ·have h11b:(h.op==11)=false:=by simp[h11]
   have HLV:=Lib.hid (SlC.lens HIV.out).1
   obtain ⟨q,hq⟩:∃q,(decide (h.op=4)&&(decide (h.n=0)&&decide (h.v.length=r.length)))=q:=⟨_,rfl⟩
   have HQ:=Lib.hid hq
   clear hq
   go_upto_region 4 with fail
   go_cut [23] (fun c wx=>c=.bool q∧wc=wx)
   case first=>as_aux_lemma=>
    by_cases h4:h.op=4
    ·have h4b:(h.op==4)=true:=by simp[h4]
     by_cases hn0:h.n=0
     ·have hn0b:(h.n==0)=true:=by simp[hn0]
      by_cases hlv:h.v.length=r.length
      ·obtain rfl:true=q:=by rw[←HQ.out];simp[h4,hn0,hlv]
       have hle:alv=r.length:=HLV.out.trans hlv
       subst hle
       rw[h4] at g0
       rw[hn0] at g1
       go_wp2_with fail
       go_meet
       exact ⟨rfl,rfl⟩
      ·obtain rfl:false=q:=by rw[←HQ.out];simp[hlv]
       have hle:((alv:Int)==(r.length:Int))=false:=by
        rw[HLV.out,beq_eq_false_iff_ne];intro e;exact hlv (by omega)
       rw[h4] at g0
       rw[hn0] at g1
       go_wp2_with fail
       go_meet
       exact ⟨rfl,rfl⟩
     ·have hn0b:(h.n==0)=false:=by simp[hn0]
      obtain rfl:false=q:=by rw[←HQ.out];simp[hn0]
      rw[h4] at g0
      go_wp2_with fail
      go_meet
      exact ⟨rfl,rfl⟩
    ·have h4b:(h.op==4)=false:=by simp[h4]
     obtain rfl:false=q:=by rw[←HQ.out];simp[h4]
     go_wp2_with fail
     go_meet
     exact ⟨rfl,rfl⟩
   case rest=>
    obtain ⟨rfl,rfl⟩:=hcut
    cases q with
    | true=>
     have h3:h.op=4∧h.n=0∧h.v.length=r.length:=by
      have hq:=HQ.out
      simpa[Bool.and_eq_true,decide_eq_true_eq] using hq
     obtain ⟨b,hb⟩:=H4.out h3.1 h3.2.1 h3.2.2
     have HYE:=Lib.hid (show y=(Fd.letT h.v (r++[b]),cs) from by
      rw[←HY.out];unfold Fd.post;rw[if_pos rfl]
      dsimp only
      rw[if_neg h11,if_pos h3,hb])
     have HSZ:=Lib.hid (show Trm.allL (r++[b])≤1000∧(Trm.bndL (r++[b])).length≤2000000 from by
      have e1:Trm.allL (r++[b])=Trm.allL r+b.all:=by rw[allL_append];simp[Trm.allL]
      have e2:Trm.allL (h::r)=h.all+Trm.allL r:=by rw[Trm.allL]
      have e3:h.all=1+Trm.allL h.t:=by cases h;rw[Trm.all];rfl
      have e4:Trm.allL h.t=b.all:=by rw[hb];simp[Trm.allL]
      have f1:Trm.bndL (r++[b])=Trm.bndL r++b.bnd:=by rw[bndL_append];simp[Trm.bndL]
      have f2:Trm.bndL (h::r)=h.bnd++Trm.bndL r:=by rw[Trm.bndL]
      have f3:h.bnd=h.v++Trm.bndL h.t:=by cases h;rw[Trm.bnd];rfl
      have f4:Trm.bndL h.t=b.bnd:=by rw[hb];simp[Trm.bndL]
      have g1:=HALL.out
      have g2:=HBN.out
      rw[f2,f3,f4] at g2
      rw[f1]
      simp only[List.length_append] at g2 ⊢
      omega)
     have hit:=HIT.out
     rw[hb] at hit
     obtain ⟨bb,bo,bes,he,hbb,hbl,hbcell,hbar⟩:=SlC.at hit (Below.refl _ _) (j:=0) (x:=b) rfl
     subst he
     obtain ⟨bov,blv,bcv,bot,blt,bct,rfl,_,_,_,_⟩:=trmR_form hbar
     have f0:=(HBW.out.cell (p:=⟨bb,_,none⟩) hbb).trans (hide_some (hbcell 0 _ rfl)).2
     have f1:=(HBW.out.cell (p:=⟨bb,_,none⟩) hbb).trans (hide_some (hbcell 1 _ rfl)).2
     have f2:=(HBW.out.cell (p:=⟨bb,_,none⟩) hbb).trans (hide_some (hbcell 2 _ rfl)).2
     have f3:=(HBW.out.cell (p:=⟨bb,_,none⟩) hbb).trans (hide_some (hbcell 3 _ rfl)).2
     simp only[Nat.add_zero,Nat.zero_mul] at f0 f1 f2 f3
     have fl:=cell_lt f0
     obtain rfl:alt=1:=by have:=(SlC.lens hit).1;simpa using this
     have HBAR:=Lib.hid hbar
     have H3:=Lib.hid h3
     clear hbcell hbar hbl hit h3 hb
     have HDR:=Lib.hid ((Below.refl wc.heap.size wc).drew)
     have HWD:=Lib.hid (show Below w.heap.size w wc.drew from HBW.out.trans (HDR.out.mono HBW.out.size))
     have HWA:=Lib.hid (show ∀X,Below w.heap.size w (wc.drew.alloc X) from fun X=>HWD.out.trans ((Below.one _ X).mono HWD.out.size))
     have HCL:=Lib.hid (fun Wx (hb:Below wc.heap.size wc Wx)=>cloneG_any (H:=FH (S2w S w.heap.size) fb sl) r (.slice o' r.length c') Wx (TrmS.shown HTR2.out (Shown.below hb) hb.size) (fun b h=>Nat.lt_of_lt_of_le (HF2.out.fo.lt b h) hb.size) (by omega))
     have HBR:=Lib.hid (fun Wx (hb:Below w.heap.size w Wx) (S':Nat→Prop) (hS:∀b,S' b→FH S fb sl b∨w.heap.size≤b)=>HBAR.out.shown (shown_more hb hS) hb.size)
     have HFX:=Lib.hid (fun Wx (hb:Below wc.heap.size wc Wx)=>(show Wx.cell? ⟨w.heap.size+2,2,none⟩=some (.slice aov alv acv)∧Wx.cell? ⟨w.heap.size+2,3,none⟩=some (.slice (some ⟨bb,bo,none⟩) 1 act)∧w.heap.size+2<Wx.heap.size∧Wx.cell? ⟨bb,bo,none⟩=some (.int .i64 b.op)∧Wx.cell? ⟨bb,bo+1,none⟩=some (.int .i64 b.n)∧Wx.cell? ⟨bb,bo+2,none⟩=some (.slice bov blv bcv)∧Wx.cell? ⟨bb,bo+3,none⟩=some (.slice bot blt bct)∧bb<Wx.heap.size from
      ⟨(HHD.out.keep hb).cell 2 rfl,(HHD.out.keep hb).cell 3 rfl,(HHD.out.keep hb).lt,(hb.cell (p:=⟨bb,bo,none⟩) fl).trans f0,(hb.cell (p:=⟨bb,bo+1,none⟩) fl).trans f1,(hb.cell (p:=⟨bb,bo+2,none⟩) fl).trans f2,(hb.cell (p:=⟨bb,bo+3,none⟩) fl).trans f3,Nat.lt_of_lt_of_le fl hb.size⟩))
     go_upto_region 5 with fail
     refine wp_region_stL 10 (ApP wc.heap.size wc) (ApR (FH (S2w S w.heap.size) fb sl) wc.heap.size (w.heap.size+2) (.slice aov alv acv) (.slice o' r.length c') (.slice (some ⟨bb,bo,none⟩) 1 act) bb bo [.int .i64 b.op,.int .i64 b.n,.slice bov blv bcv,.slice bot blt bct] b r) (by kernel_rfl) (by kernel_rfl) ⟨HDR.out,(fun h=>by rw[getD_replicate_false] at h;cases h),(fun h=>by rw[getD_replicate_false] at h;cases h),(fun h=>by rw[getD_replicate_false] at h;cases h)⟩ ?hops ?hend
     case hops=>
      intro i q8 hi ho listed a w1 hli hld hph hun hdep hrest hsz
      have hbw:Below wc.heap.size wc w1:=hph.below
      have hs52:a.tmps.size=52:=hsz.trans rfl
      obtain ⟨k0,k1,k2,k3,k4,k5,k6,k7⟩:=HFX.out w1 hbw
      match i,hi with
      | 0,_=>
       cases ho
       have h5:a.tmps.getD 5 undef=.pointer (some ⟨w.heap.size+2,0,none⟩):=hrest.at 5 (by kernel_rfl)
       exact wp_valF (v:=.pointer (some ⟨w.heap.size+2,2,none⟩)) (w':=w1) (by go_simp) ⟨_,rfl,rfl,hph.other (d:=40) (by omega) (by decide) (by decide) (by decide) (by decide) (Below.refl _ _) hbw.size,fun j u _ _ h=>apR_kept h (Below.refl _ _) (fun h=>by rwa[getD_set_ne false (by decide)] at h)⟩
      | 1,_=>
       cases ho
       have h40:a.tmps.getD 40 undef=.pointer (some ⟨w.heap.size+2,2,none⟩):=hdep.at 0 40 (by kernel_rfl)
       exact wp_valF (v:=.slice aov alv acv) (w':=w1) (by go_simp) ⟨_,rfl,rfl,hph.other (d:=41) (by omega) (by decide) (by decide) (by decide) (by decide) (Below.refl _ _) hbw.size,fun j u _ _ h=>apR_kept h (Below.refl _ _) (fun h=>by rwa[getD_set_ne false (by decide)] at h)⟩
      | 2,_=>
       cases ho
       exact wp_moveF rfl ⟨_,rfl,hrest.at 6 (by kernel_rfl),hph.other (d:=42) (by omega) (by decide) (by decide) (by decide) (by decide) (Below.refl _ _) hbw.size,fun j u _ _ h=>apR_kept h (Below.refl _ _) (fun h=>by rwa[getD_set_ne false (by decide)] at h)⟩
      | 3,_=>
       cases ho
       have h42:a.tmps.getD 42 undef=.slice o' r.length c':=hdep.at 2 42 (by kernel_rfl)
       refine wp_callF (vals:=#[.slice o' r.length c']) rfl (by simp only[List.map_toArray,List.map_cons,List.map_nil];rw[←h42];rfl) (fun _ _=>rfl) (HCL.out w1 hbw) ?_
       rintro e w' ⟨ox,lx,cx,rfl,hg,hb5⟩
       have hd:43<a.tmps.size:=by omega
       have t3:(a.put (some 43) (.slice ox lx cx)).tmps.getD 43 undef=.slice ox lx cx:=by rw[put_getD hd,if_pos rfl]
       have t8:(a.put (some 43) (.slice ox lx cx)).tmps.getD 48 undef=a.tmps.getD 48 undef:=by rw[put_getD hd,if_neg (by decide)]
       refine ⟨_,rfl,_,rfl,fun _=>hg.less (fun _ h=>h) hbw.size,⟨hbw.trans (hb5.mono hbw.size),?_,?_,?_⟩,fun j u _ _ h=>apR_kept h hb5 (fun h=>by rwa[getD_set_ne false (by decide)] at h)⟩
       ·intro _ g hg9
        replace hg9:((a.put (some 43) (.slice ox lx cx)).tmps.getD 43 undef).ownBlock=some g:=hg9
        rw[t3] at hg9
        exact (hg.block hg9).2
       ·intro h8 g hg9
        replace hg9:((a.put (some 43) (.slice ox lx cx)).tmps.getD 48 undef).ownBlock=some g:=hg9
        rw[t8] at hg9
        exact Nat.lt_of_lt_of_le (hph.l8 (by rwa[getD_set_ne false (by decide)] at h8) g hg9) hb5.size
       ·intro _ h8 _ g hg9 hg8
        replace hg9:((a.put (some 43) (.slice ox lx cx)).tmps.getD 43 undef).ownBlock=some g:=hg9
        rw[t3] at hg9
        replace hg8:((a.put (some 43) (.slice ox lx cx)).tmps.getD 48 undef).ownBlock=some g:=hg8
        rw[t8] at hg8
        have x1:=(hg.block hg9).1
        have x2:=hph.l8 (by rwa[getD_set_ne false (by decide)] at h8) g hg8
        omega
      | 4,_=>
       cases ho
       have h5:a.tmps.getD 5 undef=.pointer (some ⟨w.heap.size+2,0,none⟩):=hrest.at 5 (by kernel_rfl)
       exact wp_valF (v:=.pointer (some ⟨w.heap.size+2,3,none⟩)) (w':=w1) (by go_simp) ⟨_,rfl,rfl,hph.other (d:=44) (by omega) (by decide) (by decide) (by decide) (by decide) (Below.refl _ _) hbw.size,fun j u _ _ h=>apR_kept h (Below.refl _ _) (fun h=>by rwa[getD_set_ne false (by decide)] at h)⟩
      | 5,_=>
       cases ho
       have h44:a.tmps.getD 44 undef=.pointer (some ⟨w.heap.size+2,3,none⟩):=hdep.at 4 44 (by kernel_rfl)
       exact wp_valF (v:=.slice (some ⟨bb,bo,none⟩) 1 act) (w':=w1) (by go_simp) ⟨_,rfl,rfl,hph.other (d:=45) (by omega) (by decide) (by decide) (by decide) (by decide) (Below.refl _ _) hbw.size,fun j u _ _ h=>apR_kept h (Below.refl _ _) (fun h=>by rwa[getD_set_ne false (by decide)] at h)⟩
      | 6,_=>
       cases ho
       have h45:a.tmps.getD 45 undef=.slice (some ⟨bb,bo,none⟩) 1 act:=hdep.at 5 45 (by kernel_rfl)
       exact wp_valF (v:=.pointer (some ⟨bb,bo,none⟩)) (w':=w1) (by go_simp) ⟨_,rfl,rfl,hph.other (d:=46) (by omega) (by decide) (by decide) (by decide) (by decide) (Below.refl _ _) hbw.size,fun j u _ _ h=>apR_kept h (Below.refl _ _) (fun h=>by rwa[getD_set_ne false (by decide)] at h)⟩
      | 7,_=>
       cases ho
       have h46:a.tmps.getD 46 undef=.pointer (some ⟨bb,bo,none⟩):=hdep.at 6 46 (by kernel_rfl)
       exact wp_valF (v:=.agg #[.int .i64 b.op,.int .i64 b.n,.slice bov blv bcv,.slice bot blt bct]) (w':=w1) (by go_simp) ⟨_,rfl,rfl,hph.other (d:=47) (by omega) (by decide) (by decide) (by decide) (by decide) (Below.refl _ _) hbw.size,fun j u _ _ h=>apR_kept h (Below.refl _ _) (fun h=>by rwa[getD_set_ne false (by decide)] at h)⟩
      | 8,_=>
       cases ho
       have h47:a.tmps.getD 47 undef=.agg #[.int .i64 b.op,.int .i64 b.n,.slice bov blv bcv,.slice bot blt bct]:=hdep.at 7 47 (by kernel_rfl)
       have hb5:=Below.one w1 (.cells #[.int .i64 b.op,.int .i64 b.n,.slice bov blv bcv,.slice bot blt bct] 26)
       have hd:48<a.tmps.size:=by omega
       have t3:(a.put (some 48) (.slice (some ⟨w1.heap.size,0,none⟩) 1 1)).tmps.getD 43 undef=a.tmps.getD 43 undef:=by rw[put_getD hd,if_neg (by decide)]
       have t8:(a.put (some 48) (.slice (some ⟨w1.heap.size,0,none⟩) 1 1)).tmps.getD 48 undef=.slice (some ⟨w1.heap.size,0,none⟩) 1 1:=by rw[put_getD hd,if_pos rfl]
       refine wp_bsR (v:=.slice (some ⟨w1.heap.size,0,none⟩) 1 1) (w':=w1.alloc (.cells #[.int .i64 b.op,.int .i64 b.n,.slice bov blv bcv,.slice bot blt bct] 26)) rfl h47 (run_bsT _ _ _ _ _ _ _ _ _) ⟨_,rfl,⟨_,rfl,hbw.size,fun _=>BoxL.new rfl _ _⟩,⟨hbw.trans (hb5.mono hbw.size),?_,?_,?_⟩,fun j u _ _ h=>apR_kept h hb5 (fun h=>by rwa[getD_set_ne false (by decide)] at h)⟩
       ·intro h3 g hg9
        replace hg9:((a.put (some 48) (.slice (some ⟨w1.heap.size,0,none⟩) 1 1)).tmps.getD 43 undef).ownBlock=some g:=hg9
        rw[t3] at hg9
        exact Nat.lt_of_lt_of_le (hph.l3 (by rwa[getD_set_ne false (by decide)] at h3) g hg9) hb5.size
       ·intro _ g hg9
        replace hg9:((a.put (some 48) (.slice (some ⟨w1.heap.size,0,none⟩) 1 1)).tmps.getD 48 undef).ownBlock=some g:=hg9
        rw[t8] at hg9
        simp only[Value.ownBlock,Option.some.injEq] at hg9
        subst hg9;simp
       ·intro h3 _ _ g hg9 hg8
        replace hg9:((a.put (some 48) (.slice (some ⟨w1.heap.size,0,none⟩) 1 1)).tmps.getD 43 undef).ownBlock=some g:=hg9
        rw[t3] at hg9
        replace hg8:((a.put (some 48) (.slice (some ⟨w1.heap.size,0,none⟩) 1 1)).tmps.getD 48 undef).ownBlock=some g:=hg8
        rw[t8] at hg8
        simp only[Value.ownBlock,Option.some.injEq] at hg8
        have x2:=hph.l3 (by rwa[getD_set_ne false (by decide)] at h3) g hg9
        omega
      | 9,_=>
       cases ho
       have hl9:(listed.setIfInBounds 9 true).getD 9 false=true:=by simp[hli]
       obtain ⟨b8,h48,hb8,hbx⟩:ApR (FH (S2w S w.heap.size) fb sl) wc.heap.size (w.heap.size+2) (.slice aov alv acv) (.slice o' r.length c') (.slice (some ⟨bb,bo,none⟩) 1 act) bb bo [.int .i64 b.op,.int .i64 b.n,.slice bov blv bcv,.slice bot blt bct] b r listed 8 (a.tmps.getD 48 undef) w1:=hdep.at 8 48 (by kernel_rfl)
       have h43:listed.getD 9 false=false→GrownT 26 w1 (FH (S2w S w.heap.size) fb sl) wc.heap.size r (a.tmps.getD 43 undef):=hdep.at 3 43 (by kernel_rfl)
       have hd3:listed.getD 3 false=true:=listed_dep hld 3 (by kernel_rfl)
       have hd8:listed.getD 8 false=true:=listed_dep hld 8 (by kernel_rfl)
       have g43:=h43 hun
       have hww:=HBW.out.trans (hbw.mono HBW.out.size)
       refine wp_growT (.tmp 43) (.tmp 48) rfl wc.heap.size _ _ r [b] rfl (Lib.hid g43) h48 (Lib.hid (trmS_box (hbx hun) (fun h=>?_) (HBR.out w1 hww (SR (FH (S2w S w.heap.size) fb sl) (a.tmps.getD 43 undef)) fun q hq=>?_))) (by simp;omega) ?_
       ·rcases h with h | h
        ·have:=HF2.out.fo.lt _ h;omega
        ·exact hph.ne hd3 hd8 hun b8 h (by rw[h48];rfl)
       ·rcases hq with hq | hq
        ·exact fh_two hq
        ·have:=(g43.block hq).1;have:=HBW.out.size;exact .inr (by omega)
       ·intro o9 l9 c9 w' m1 m2 m3 _
        exact ⟨_,rfl,⟨_,_,_,rfl,m1.out⟩,⟨hbw.trans m2.out,(fun _ g hg=>by
         have hd:49<a.tmps.size:=by omega
         replace hg:((a.put (some 49) (.slice o9 l9 c9)).tmps.getD 43 undef).ownBlock=some g:=hg
         rw[put_getD hd,if_neg (by decide)] at hg
         exact Nat.lt_of_lt_of_le (hph.l3 hd3 g hg) m3.out.size),(fun _ g hg=>by
         have hd:49<a.tmps.size:=by omega
         replace hg:((a.put (some 49) (.slice o9 l9 c9)).tmps.getD 48 undef).ownBlock=some g:=hg
         rw[put_getD hd,if_neg (by decide)] at hg
         exact Nat.lt_of_lt_of_le (hph.l8 hd8 g hg) m3.out.size),fun _ _ h9=>(by rw[hl9] at h9;cases h9)⟩,fun j u hj _ h=>apR_done h hj hl9⟩
      | i+10,hi=>exact absurd hi (by omega)
     case hend=>
      intro listed a w1 hdf hsz hls hph hval hrest
      obtain ⟨o9,l9,c9,h49,hrow⟩:=hval 9 _ 49 (by omega) rfl rfl
      have h41:a.tmps.getD 41 undef=.slice aov alv acv:=hval 1 _ 41 (by omega) rfl rfl
      rw[h49] at hrow
      obtain ⟨f9,ha,hf⟩:=act_spellF [false,false,false,false,false,false,false,false,false,false,false,false,false,false,false,false,false,false,false,false,false,false,false,false,false,false,false,false,false,false,false,false,false,false,false,false,false,false,false,false,true,true,true,true,true,true,true,true,true,true,false,false] (by kernel_rfl) hdf hsz hrest
      rw[←hf] at h49 h41
      subst ha
      have HB1:=Lib.hid hph.below
      have HRW:=Lib.hid hrow
      have HVV:=Lib.hid (ints_shown HIV.out (shown_more (HBW.out.trans (HB1.out.mono HBW.out.size)) (S':=FH (S2w S w.heap.size) fb sl) fun b hb=>fh_two hb) (HBW.out.trans (HB1.out.mono HBW.out.size)).size)
      clear hval hrest hf hdf hsz hls hph hrow
      simp only[spellF,h41,h49,List.drop_succ_cons,List.drop_zero]
      go_wp2_with fail
      refine (flet_any (FH (S2w S w.heap.size) fb sl) h.v (r++[b]) _ _ w1 HVV.out HRW.out.rep (fun b hb=>Nat.lt_of_lt_of_le (HF2.out.fo.lt b hb) HB1.out.size) (by have:=H3.out.2.2;simp;omega) HSZ.out.1 HSZ.out.2).mono ?_
      rintro e w8 ⟨o2,n2,ov2,ot2,lv2,cv2,lt2,ct2,rfl,hr8,hb8⟩
      have hbc8:Below wc.heap.size wc w8:=HB1.out.trans (hb8.mono HB1.out.size)
      have HRB:=Lib.hid (HR3.out.keep hbc8)
      have HR8:=Lib.hid hr8
      have HF8:=Lib.hid (HF2.out.below hbc8)
      have HBC8:=Lib.hid hbc8
      clear hr8 hb8 hbc8 h41 h49
      have r0:=HRB.out.cell 0 rfl
      have r1:=HRB.out.cell 1 rfl
      have r2:=HRB.out.cell 2 rfl
      have r3:=HRB.out.cell 3 rfl
      have k0:=HRB.out.free 0
      have k1:=HRB.out.free 1
      have k2:=HRB.out.free 2
      have k3:=HRB.out.free 3
      have rl:=HRB.out.lt
      have HBF:=Lib.hid (set4_box HRB.out (.int .i64 o2) (.int .i64 n2) (.slice ov2 lv2 cv2) (.slice ot2 lt2 ct2))
      have q0:=HBF.out.cell 0 rfl
      have q1:=HBF.out.cell 1 rfl
      have q2:=HBF.out.cell 2 rfl
      have q3:=HBF.out.cell 3 rfl
      go_wp2_with fail
      refine bodyPost_ret (v:=.agg #[.int .i64 o2,.int .i64 n2,.slice ov2 lv2 cv2,.slice ot2 lt2 ct2]) (by simp[results,Tryz.f36,go_sem,q0,q1,q2,q3]) rfl ?_
      rw[HYE.out]
      exact FoPostE.boxed HF.out HBW.out HF8.out HR8.out (.of_below HBC8.out) (fun g hg=>.inl hg) _ _ _ _
    | false=>
     have HYE:=Lib.hid (show y=(.mk 5 n v (h::r),cs) from by
      rw[←HY.out];unfold Fd.post;rw[if_pos rfl]
      have hq:=HQ.out
      have hno:¬(h.op=4∧h.n=0∧h.v.length=r.length):=by
       rintro ⟨a,b,c⟩;rw[decide_eq_true a,decide_eq_true b,decide_eq_true c] at hq;cases hq
      simp only[h11,if_false,hno])
     clear g0 g1 g2 g3 gl
     have HRB:=HR3
     have x0:=HX3.out.cell 0 rfl
     have x1:=HX3.out.cell 1 rfl
     have x2:=HX3.out.cell 2 rfl
     have x3:=HX3.out.cell 3 rfl
     have xl:=HX3.out.lt
     have r0:=HRB.out.cell 0 rfl
     have r1:=HRB.out.cell 1 rfl
     have r2:=HRB.out.cell 2 rfl
     have r3:=HRB.out.cell 3 rfl
     have k0:=HRB.out.free 0
     have k1:=HRB.out.free 1
     have k2:=HRB.out.free 2
     have k3:=HRB.out.free 3
     have rl:=HRB.out.lt
     have HBF:=Lib.hid (set4_box HRB.out (.int .i64 5) (.int .i64 n) (.slice ov lv cv) (.slice (some ⟨tb,tof,none⟩) (r.length+1) ct))
     have q0:=HBF.out.cell 0 rfl
     have q1:=HBF.out.cell 1 rfl
     have q2:=HBF.out.cell 2 rfl
     have q3:=HBF.out.cell 3 rfl
     have HBB:=Lib.hid (HBW.out.trans (set4_below wc (b:=w.heap.size+1) (n:=w.heap.size) (by omega) (.int .i64 5) (.int .i64 n) (.slice ov lv cv) (.slice (some ⟨tb,tof,none⟩) (r.length+1) ct)))
     go_wp2_with fail
     refine bodyPost_ret (v:=.agg #[.int .i64 5,.int .i64 n,.slice ov lv cv,.slice (some ⟨tb,tof,none⟩) (r.length+1) ct]) (by simp[results,Tryz.f36,go_sem,q0,q1,q2,q3]) rfl ?_
     rw[HYE.out]
     exact FoPostE.same HF.out ⟨_,_,_,_,_,_,_,_,rfl,HX.out.shown (shown_more HBB.out fun b h=>.inl h) HBB.out.size,HBB.out⟩
end
end Go.Proofs.YtgbibibmpoekiaaGreatDoor
