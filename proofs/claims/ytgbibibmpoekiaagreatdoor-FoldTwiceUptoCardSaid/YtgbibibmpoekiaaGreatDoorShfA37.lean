/-
  What the proofs lean on: FwT.
-/
import Derived.Test.YtgbibibmpoekiaaGreatDoorShfA36
set_option maxRecDepth 100000
set_option maxHeartbeats 16000000
namespace Go.Proofs.YtgbibibmpoekiaaGreatDoor
section
open Go Go.RowKit
theorem fterm_any {b0:Nat}:∀(x:Trm) (S:Nat→Prop) (fb base:Nat) (sl:Value) (cs:List Dat) (c0 c1 c2 c3:Value) (w:World),FoE b0 w S fb base sl cs→TrmR (hide w (FH S fb sl)) w.heap.size x [c0,c1,c2,c3]→Fd.Okay x cs →
  Calls Tryz.prog 24 #[.pointer (some ⟨fb,0,none⟩),.agg #[c0,c1,c2,c3]] w (FoPostE b0 S fb base sl (Fd.term Fd.foldF x cs) w):=by
 intro x
 induction x using Trm.ind with
 | _ o n v t ih=>
 intro S fb base sl cs c0 c1 c2 c3 w hf hx hok
 obtain ⟨vs,ts,he,ho,hn,hv,ht⟩:=trmR_iff.1 hx
 simp only[List.cons.injEq,and_true] at he
 obtain ⟨rfl,rfl,rfl,rfl⟩:=he
 obtain ⟨ov,lv,cv,rfl⟩:=hv.form
 obtain ⟨ot,lt,ct,rfl⟩:=SlC.form ht
 have HLT:=Lib.hid (SlC.lens (show SlC (hide w (FH S fb sl)) w.heap.size 4 (TrmR (hide w (FH S fb sl)) w.heap.size) t (.slice ot lt ct) from ht)).1
 have hlt:lt≤1000:=by
  have h1:=HLT.out
  have h2:=hok.all
  have h3:=Trm.allL_length t
  rw[Trm.all] at h2
  omega
 have hvl:v.length≤4000000:=by
  have h2:=hok.bnd
  rw[Trm.bnd,List.length_append] at h2
  omega
 obtain ⟨W2,hW2⟩:∃W2,(w.alloc (.cells #[.int .i64 o,.int .i64 n,.slice ov lv cv,.slice ot lt ct] 26)).alloc (.cells #[.int .i64 0,.int .i64 0,.slice none 0 0,.slice none 0 0] 26)=W2:=⟨_,rfl⟩
 have hb2:Below w.heap.size w W2:=by rw[←hW2];exact (Below.one w _).trans ((Below.one _ _).mono (by simp))
 have hs2:W2.heap.size=w.heap.size+2:=by rw[←hW2];simp
 have HX2:=Lib.hid (show BoxL W2 w.heap.size 26 [.int .i64 o,.int .i64 n,.slice ov lv cv,.slice ot lt ct] from by rw[←hW2];exact (BoxL.new rfl _ _).alloc _)
 have HR2:=Lib.hid (show BoxL W2 (w.heap.size+1) 26 [.int .i64 0,.int .i64 0,.slice none 0 0,.slice none 0 0] from by rw[←hW2];exact BoxL.new (by simp) _ _)
 have HB2:=Lib.hid hb2
 have HS2:=Lib.hid hs2
 have HW2:=Lib.hid hW2
 have HVI:=Lib.hid (SlC.i64 hv)
 have HCL:=Lib.hid (fun W (hb:Below W2.heap.size W2 W)=>cloneI4_any v (.slice ov lv cv) w.heap.size W (ints_unhide (ints_shown hv (Shown.below (hb2.trans (hb.mono hb2.size))) (Nat.le_refl _))) (Nat.le_trans hb2.size hb.size) hvl)
 have HF:=Lib.hid hf
 have HT:=Lib.hid ht
 have HO:=Lib.hid ho
 have HN:=Lib.hid hn
 have HOK:=Lib.hid hok
 have IH:=Lib.hid ih
 clear hf hx hok ho hn hv ht hvl hb2 hs2 hW2 ih
 go_enter Tryz.func24,Tryz.ntmps24
 go_upto_region 1 with fail
 rw[HW2.out]
 clear HW2
 go_cut [5] (fun p wx=>∃(q:Nat) (o':Option Addr) (l' c':Nat),p=.pointer (some ⟨q,0,none⟩)∧w.heap.size+2≤q∧Hid (Below W2.heap.size W2 wx)∧Hid (BoxL wx q 26 [.int .i64 o,.int .i64 n,.slice o' l' c',.slice none 0 0])∧Hid (wx.ownsRow (w.heap.size+2) 3 1 (.slice o' l' c') v.length (v.map (Value.int .i64))))
 case first=>as_aux_lemma=>
  have HDR:=Lib.hid ((Below.refl W2.heap.size W2).drew)
  refine wp_region_newF 9 (TgR w.heap.size o n (.slice ov lv cv) v) (by kernel_rfl) (by kernel_rfl) (fun i v A B h _ hb=>tgR_kept i v A B h hb) ?hops ?hend
  case hops=>
   intro i q8 hi ho a w1 hex hdep hrest
   have hbw:Below W2.heap.size W2 w1:=HDR.out.trans hex
   have hxb:=HX2.out.keep hbw
   have x0:=hxb.cell 0 rfl
   have x1:=hxb.cell 1 rfl
   have x2:=hxb.cell 2 rfl
   have xl:=hxb.lt
   have hz:w.heap.size+2≤w1.heap.size:=by have:=hbw.size;rw[HS2.out] at this;exact this
   match i,hi with
   | 0,_=>
    cases ho
    have h3:a.tmps.getD 3 undef=.pointer (some ⟨w.heap.size,0,none⟩):=hrest.at 3 (by kernel_rfl)
    exact wp_valF (v:=.pointer (some ⟨w.heap.size,0,none⟩)) (w':=w1) (by go_simp) ⟨_,rfl,rfl,Below.refl _ _⟩
   | 1,_=>
    cases ho
    have h9:a.tmps.getD 9 undef=.pointer (some ⟨w.heap.size,0,none⟩):=hdep.at 0 9 (by kernel_rfl)
    exact wp_valF (v:=.int .i64 o) (w':=w1) (by go_simp) ⟨_,rfl,rfl,Below.refl _ _⟩
   | 2,_=>
    cases ho
    have h3:a.tmps.getD 3 undef=.pointer (some ⟨w.heap.size,0,none⟩):=hrest.at 3 (by kernel_rfl)
    exact wp_valF (v:=.pointer (some ⟨w.heap.size,1,none⟩)) (w':=w1) (by go_simp) ⟨_,rfl,rfl,Below.refl _ _⟩
   | 3,_=>
    cases ho
    have h11:a.tmps.getD 11 undef=.pointer (some ⟨w.heap.size,1,none⟩):=hdep.at 2 11 (by kernel_rfl)
    exact wp_valF (v:=.int .i64 n) (w':=w1) (by go_simp) ⟨_,rfl,rfl,Below.refl _ _⟩
   | 4,_=>
    cases ho
    have h3:a.tmps.getD 3 undef=.pointer (some ⟨w.heap.size,0,none⟩):=hrest.at 3 (by kernel_rfl)
    exact wp_valF (v:=.pointer (some ⟨w.heap.size,2,none⟩)) (w':=w1) (by go_simp) ⟨_,rfl,rfl,Below.refl _ _⟩
   | 5,_=>
    cases ho
    have h13:a.tmps.getD 13 undef=.pointer (some ⟨w.heap.size,2,none⟩):=hdep.at 4 13 (by kernel_rfl)
    exact wp_valF (v:=.slice ov lv cv) (w':=w1) (by go_simp) ⟨_,rfl,rfl,Below.refl _ _⟩
   | 6,_=>
    cases ho
    have h14:a.tmps.getD 14 undef=.slice ov lv cv:=hdep.at 5 14 (by kernel_rfl)
    refine wp_callF (vals:=#[.slice ov lv cv]) rfl (by simp only[List.map_toArray,List.map_cons,List.map_nil];rw[←h14];rfl) (fun _ _=>rfl) (HCL.out w1 hbw) ?_
    rintro e w' ⟨v',rfl,hrow,⟨o',l',c',rfl⟩,hb⟩
    exact ⟨_,rfl,_,rfl,⟨o',l',c',rfl,row_less hrow hz⟩,hb⟩
   | 7,_=>
    cases ho
    have h10:a.tmps.getD 10 undef=.int .i64 o:=hdep.at 1 10 (by kernel_rfl)
    have h12:a.tmps.getD 12 undef=.int .i64 n:=hdep.at 3 12 (by kernel_rfl)
    obtain ⟨o',l',c',h15,hrow⟩:TgR w.heap.size o n (.slice ov lv cv) v 6 (a.tmps.getD 15 undef) w1:=hdep.at 6 15 (by kernel_rfl)
    rw[h15] at hrow
    exact wp_build3 (v:=.agg #[.int .i64 o,.int .i64 n,.slice o' l' c',.slice none 0 0]) rfl h10 h12 h15 (by go_simp) ⟨_,rfl,⟨o',l',c',rfl,hrow⟩,Below.refl _ _⟩
   | 8,_=>
    cases ho
    exact wp_valF (v:=.pointer (some ⟨w1.heap.size,0,none⟩)) (w':=w1.alloc (.cells #[.int .i64 0,.int .i64 0,.slice none 0 0,.slice none 0 0] 26)) (by go_simp) ⟨_,rfl,⟨_,rfl,BoxL.new rfl _ _,hz⟩,Below.one _ _⟩
   | i+9,hi=>exact absurd hi (by omega)
  case hend=>
   intro a w1 hdf hsz hex hval hrest
   obtain ⟨q,h5,hbx,hq⟩:TgR w.heap.size o n (.slice ov lv cv) v 8 (a.tmps.getD 5 undef) w1:=hval 8 _ 5 (by omega) rfl rfl
   obtain ⟨o',l',c',h16,hrow⟩:TgR w.heap.size o n (.slice ov lv cv) v 7 (a.tmps.getD 16 undef) w1:=hval 7 _ 16 (by omega) rfl rfl
   have hbw:Below W2.heap.size W2 w1:=HDR.out.trans hex
   obtain ⟨f9,ha,hf⟩:=act_spellF [false,false,false,false,false,true,false,false,false,true,true,true,true,true,true,true,true,false,false,false,false,false,false,false,false,false,false,false,false,false,false,false,false,false,false,false,false,false,false,false,false,false,false,false,false,false,false,false,false,false,false,false,false,false,false,false,false,false,false,false,false,false,false,false,false,false,false,false,false,false,false,false,false,false,false,false,false,false,false,false,false,false,false,false,false,false,false,false,false,false,false,false] (by kernel_rfl) hdf hsz hrest
   rw[←hf] at h5 h16
   subst ha
   have HBX:=Lib.hid hbx
   have HBW:=Lib.hid hbw
   have HRW:=Lib.hid hrow
   have HQ:=Lib.hid hq
   have HBF:=Lib.hid (set4_box hbx (.int .i64 o) (.int .i64 n) (.slice o' l' c') (.slice none 0 0))
   have HBB:=Lib.hid (set4_below w1 (b:=q) (n:=W2.heap.size) (by rw[HS2.out];exact hq) (.int .i64 o) (.int .i64 n) (.slice o' l' c') (.slice none 0 0))
   have HT4:=Lib.hid (set4_turned w1 (S:=fun b=>b=q) (b:=q) rfl (.int .i64 o) (.int .i64 n) (.slice o' l' c') (.slice none 0 0))
   clear hval hrest hf hex hdf hsz hbx hbw hrow hq
   have c0:=HBX.out.cell 0 rfl
   have c1:=HBX.out.cell 1 rfl
   have c2:=HBX.out.cell 2 rfl
   have c3:=HBX.out.cell 3 rfl
   have k0:=HBX.out.free 0
   have k1:=HBX.out.free 1
   have k2:=HBX.out.free 2
   have k3:=HBX.out.free 3
   have cl:=HBX.out.lt
   simp only[spellF,h5,h16,List.drop_succ_cons,List.drop_zero]
   go_wp2_with fail
   go_meet
   refine ⟨q,o',l',c',rfl,HQ.out,Lib.hid (HBW.out.trans HBB.out),HBF,Lib.hid ?_⟩
   exact row_turned HRW.out HT4.out (row_not_box HBX.out HRW.out (by decide))
 case rest=>
  obtain ⟨q,o',l',c',rfl,hq,HBC,HOB,HROW⟩:=hcut
  have HI0:=Lib.hid (TrI.init HF.out (HB2.out.trans (HBC.out.mono HB2.out.size)) (HR2.out.keep HBC.out) HOB.out hq HROW.out HVI.out)
  have HX3:=Lib.hid (HX2.out.keep HBC.out)
  clear HOB HROW HBC HX2 HR2 HCL HB2 HS2
  have x3:=HX3.out.cell 3 rfl
  have xl:=HX3.out.lt
  go_wp2_with fail
  clear x3 xl
  go_loopg [20] lt (fun g i wr=>∃(j:Nat) (sl' tsl:Value),g=lt-j∧j≤lt∧i=.int .i64 j∧Hid (TrI b0 w S fb base sl q o n v (.slice o' l' c') sl' tsl (Fd.termL Fd.foldF (t.take j) cs).1 (Fd.termL Fd.foldF (t.take j) cs).2 wr))
  case atStart=>exact ⟨0,sl,.slice none 0 0,rfl,by omega,rfl,HI0⟩
  case round=>
   obtain ⟨j,sl',tsl,rfl,hj,rfl,HI⟩:=hrel
   clear HI0 HX3
   by_cases hjl:j<lt
   ·obtain ⟨y,hy⟩:∃y,t[j]?=some y:=⟨_,List.getElem?_eq_getElem (by rw[←HLT.out];exact hjl)⟩
    have hwr:=HI.out.turned.size
    have hsh:Shown w (FH S fb sl) wr (SR (FH (S3w S w.heap.size q) fb sl') tsl):=Shown.move HI.out.turned (fun b _ ht=>ht.elim (fun e=>.inl (.inr e)) .inr) fun b hb=>by
     rcases hb with (((hb | hb) | hb) | hb) | hb
     ·exact .inl (.inl (.inl hb))
     ·exact .inr (by omega)
     ·exact .inl (.inl (.inr hb))
     ·exact (HI.out.own b hb).imp .inr id
     ·have:=(HI.out.row.block hb).1;exact .inr (by omega)
    obtain ⟨eb,eo,es,he,_,hcl,hcell,hir⟩:=SlC.at (TrmS.shown HT.out hsh hwr) (Below.refl _ _) hy
    subst he
    obtain ⟨oy,ny,ky,oz,nz,kz,rfl,_,_,_,_⟩:=trmR_form hir
    have e0:=(hide_some (hcell 0 _ rfl)).2
    have e1:=(hide_some (hcell 1 _ rfl)).2
    have e2:=(hide_some (hcell 2 _ rfl)).2
    have e3:=(hide_some (hcell 3 _ rfl)).2
    simp only[Nat.add_zero] at e0
    have HYR:=Lib.hid hir
    have HMEM:=Lib.hid (List.mem_of_getElem? hy)
    have HSN:=Lib.hid (Fd.termL_snoc Fd.foldF cs hy)
    have HOY:=Lib.hid (HOK.out.step (F:=Fd.foldF) hy)
    obtain ⟨done,hdone⟩:∃done,Fd.termL Fd.foldF (t.take j) cs=done:=⟨_,rfl⟩
    have HDL:=Lib.hid (show done.1.length≤1000 from by rw[←hdone,Fd.termL_len,List.length_take];omega)
    rw[hdone] at HSN HOY HI
    clear hir hcell hy hsh hcl hwr hdone
    go_upto_region 5 with fail
    obtain ⟨W5,hW5⟩:∃W5,wr.alloc (.cells #[.int .i64 y.op,.int .i64 y.n,.slice oy ny ky,.slice oz nz kz] 26)=W5:=⟨_,rfl⟩
    have hb5:Below wr.heap.size wr W5:=by rw[←hW5];exact Below.one _ _
    have HE5:=Lib.hid (show BoxL W5 wr.heap.size 26 [.int .i64 y.op,.int .i64 y.n,.slice oy ny ky,.slice oz nz kz] from by rw[←hW5];exact BoxL.new rfl _ _)
    have HI5:=Lib.hid (HI.out.keep hb5)
    have HY5:=Lib.hid (HYR.out.shown (Shown.below hb5) hb5.size)
    rw[hW5]
    clear hb5 hW5 e0 e1 e2 e3 HI HYR
    have HD5:=Lib.hid ((Below.refl W5.heap.size W5).drew)
    have HI6:=Lib.hid (HI5.out.keep HD5.out)
    have HCALL:=Lib.hid (IH.out y HMEM.out (SR (S3w S w.heap.size q) tsl) fb base sl' done.2 _ _ _ _ W5.drew HI6.out.fo ((HY5.out.shown (Shown.below HD5.out) HD5.out.size).shown (Shown.less _ fun b _ hb=>by
     rcases hb with ((hb | hb) | hb) | hb
     ·exact .inl (.inl (.inl hb))
     ·exact .inr hb
     ·exact .inl (.inl (.inr hb))
     ·exact .inl (.inr hb)) (Nat.le_refl _)) HOY.out)
    have HE6:=Lib.hid (HE5.out.keep HD5.out)
    refine wp_region_stF 6 (ThP q [.int .i64 o,.int .i64 n,.slice o' l' c',tsl] W5.drew) (ThR b0 w S fb base sl q o n v (.slice o' l' c') tsl done.1 (Fd.term Fd.foldF y done.2) (.agg #[.int .i64 y.op,.int .i64 y.n,.slice oy ny ky,.slice oz nz kz])) (by kernel_rfl) (by kernel_rfl) ⟨HI6.out.ob,fun _=>rfl,(fun h=>by rw[getD_replicate_false] at h;cases h),(fun h=>by rw[getD_replicate_false] at h;cases h)⟩ ?hops ?hend
    case hops=>
     intro i q8 hi ho listed a w1 hli hld hph hun hdep hrest
     match i,hi with
     | 0,_=>
      cases ho
      have h5:a.tmps.getD 5 undef=.pointer (some ⟨q,0,none⟩):=hrest.at 5 (by kernel_rfl)
      exact wp_valF (v:=.pointer (some ⟨q,3,none⟩)) (w':=w1) (by go_simp) ⟨_,rfl,rfl,hph.other (by decide) (by decide) (by decide),fun j u _ _ h=>h⟩
     | 1,_=>
      cases ho
      have h24:a.tmps.getD 24 undef=.pointer (some ⟨q,3,none⟩):=hdep.at 0 24 (by kernel_rfl)
      have c3:=hph.box.cell 3 rfl
      have cl:=hph.box.lt
      exact wp_valF (v:=tsl) (w':=w1) (by go_simp) ⟨_,rfl,rfl,hph.other (by decide) (by decide) (by decide),fun j u _ _ h=>h⟩
     | 2,_=>
      cases ho
      exact wp_moveF rfl ⟨_,rfl,hrest.at 0 (by kernel_rfl),hph.other (by decide) (by decide) (by decide),fun j u _ _ h=>h⟩
     | 3,_=>
      cases ho
      have h7:a.tmps.getD 7 undef=.pointer (some ⟨wr.heap.size,0,none⟩):=hrest.at 7 (by kernel_rfl)
      have h4:listed.getD 4 false=false:=by
       cases h:listed.getD 4 false with
       | false=>rfl
       | true=>rw[hph.l3 h] at hun;cases hun
      obtain rfl:=hph.first h4
      have c0:=HE6.out.cell 0 rfl
      have c1:=HE6.out.cell 1 rfl
      have c2:=HE6.out.cell 2 rfl
      have c3:=HE6.out.cell 3 rfl
      have cl:=HE6.out.lt
      exact wp_valF (v:=.agg #[.int .i64 y.op,.int .i64 y.n,.slice oy ny ky,.slice oz nz kz]) (w':=W5.drew) (by go_simp) ⟨_,rfl,rfl,hph.load hun,fun j u _ _ h=>h⟩
     | 4,_=>
      cases ho
      have h26:a.tmps.getD 26 undef=.pointer (some ⟨fb,0,none⟩):=hdep.at 2 26 (by kernel_rfl)
      have h27:a.tmps.getD 27 undef=.agg #[.int .i64 y.op,.int .i64 y.n,.slice oy ny ky,.slice oz nz kz]:=hdep.at 3 27 (by kernel_rfl)
      have hd3:listed.getD 3 false=true:=listed_dep hld 3 (by kernel_rfl)
      obtain rfl:=hph.first hun
      refine wp_callF (vals:=#[.pointer (some ⟨fb,0,none⟩),.agg #[.int .i64 y.op,.int .i64 y.n,.slice oy ny ky,.slice oz nz kz]]) rfl (by simp only[List.map_toArray,List.map_cons,List.map_nil];rw[←h26,←h27];rfl) (fun _ _=>rfl) HCALL.out ?_
      intro e w' he
      obtain ⟨sl2,u,rfl,hi2,htm⟩:=HI6.out.called he
      exact ⟨u,rfl,u,rfl,⟨sl2,hi2,htm⟩,hph.call hli hi2.ob hd3,fun j u hj hl h=>hph.kept4 hun j u hj hl h⟩
     | 5,_=>
      cases ho
      obtain ⟨sl2,hi2,htm⟩:ThR b0 w S fb base sl q o n v (.slice o' l' c') tsl done.1 (Fd.term Fd.foldF y done.2) (.agg #[.int .i64 y.op,.int .i64 y.n,.slice oy ny ky,.slice oz nz kz]) 4 (a.tmps.getD 28 undef) w1:=hdep.at 4 28 (by kernel_rfl)
      have hd4:listed.getD 4 false=true:=listed_dep hld 4 (by kernel_rfl)
      refine wp_bsT rfl htm (fun b hb=>?_) fun v w' h1 h2=>⟨v,rfl,⟨sl2,hi2.keep h2,h1⟩,⟨(hi2.keep h2).ob,(fun h=>by rw[getD_set_ne false (by decide),hd4] at h;cases h),(fun h=>by rw[getD_set_ne false (by decide)] at h ⊢;exact hph.l3 h),fun _=>(by rw[getD_set_ne false (by decide)];exact hd4)⟩,fun j u hj _ h=>thR_below hj h h2⟩
      rcases hb with hb | hb
      ·exact hi2.row.1 b hb
      ·exact (hi2.row.block hb).2
     | i+6,hi=>exact absurd hi (by omega)
    case hend=>
     intro listed a w1 hdf hsz hls hph hval hrest
     have h25:a.tmps.getD 25 undef=tsl:=hval 1 _ 25 (by omega) rfl rfl
     obtain ⟨sl2,hi2,hs2⟩:ThR b0 w S fb base sl q o n v (.slice o' l' c') tsl done.1 (Fd.term Fd.foldF y done.2) (.agg #[.int .i64 y.op,.int .i64 y.n,.slice oy ny ky,.slice oz nz kz]) 5 (a.tmps.getD 29 undef) w1:=hval 5 _ 29 (by omega) rfl rfl
     obtain ⟨u29,h29⟩:∃u,a.tmps.getD 29 undef=u:=⟨_,rfl⟩
     rw[h29] at hs2
     obtain ⟨f9,ha,hf⟩:=act_spellF [false,false,false,false,false,false,false,false,false,false,false,false,false,false,false,false,false,false,false,false,false,false,false,false,true,true,true,true,true,true,false,false,false,false,false,false,false,false,false,false,false,false,false,false,false,false,false,false,false,false,false,false,false,false,false,false,false,false,false,false,false,false,false,false,false,false,false,false,false,false,false,false,false,false,false,false,false,false,false,false,false,false,false,false,false,false,false,false,false,false,false,false] (by kernel_rfl) hdf hsz hrest
     rw[←hf] at h25 h29
     subst ha
     have HI8:=Lib.hid hi2
     have HS8:=Lib.hid hs2
     clear hval hrest hf hdf hsz hls hph hi2 hs2
     simp only[spellF,h25,h29,List.drop_succ_cons,List.drop_zero]
     refine wpList_growT4 rfl (.tmp 25) (.tmp 29) rfl (w.heap.size+2) tsl u29 done.1 [(Fd.term Fd.foldF y done.2).1] rfl HI8.out.row rfl HS8.out (by have:=HDL.out;simp;omega) ?_
     intro o9 l9 c9 w9 m1 m2 m3
     have HI9:=Lib.hid (HI8.out.grown m1.out m2.out m3.out)
     have hb9:=m2.out.box HI8.out.ob (fun h=>HI8.out.row.apart q h (.inl (.inl (.inr (.inr rfl)))))
     have c3:=hb9.cell 3 rfl
     have cz:=hb9.free 3
     have cl:=hb9.lt
     clear hb9 m1 m2 m3
     go_wp2_with fail
     go_roundg (lt-(j+1))
     case measure=>omega
     case rel=>exact ⟨j+1,sl2,.slice o9 l9 c9,rfl,by omega,by go_num,by rw[HSN.out];exact HI9⟩
   ·obtain rfl:lt=j:=by omega
    have htt:t.take lt=t:=List.take_of_length_le (by rw[←HLT.out];exact Nat.le_refl _)
    rw[htt] at HI
    obtain ⟨⟨nk,fr,sc,hwf⟩,hal,hbn,hcs⟩:=HOK.out.parts (F:=Fd.foldF)
    obtain ⟨ot5,lt5,ct5,rfl,_,hl5⟩:=HI.out.row.form
    obtain ⟨t',cs',hp⟩:∃t' cs',Fd.termL Fd.foldF t cs=(t',cs'):=⟨_,_,rfl⟩
    have HYE:=Lib.hid (show Fd.term Fd.foldF (.mk o n v t) cs=Fd.post Fd.foldF o n v t' cs' from by rw[Fd.term,hp])
    rw[hp] at HI hwf hal hbn hcs hl5
    dsimp only at HI hwf hal hbn hcs hl5
    have HWF:=Lib.hid hwf
    have HAL:=Lib.hid hal
    have HBN:=Lib.hid hbn
    have HCS:=Lib.hid hcs
    have HL5:=Lib.hid hl5
    have HTM:=Lib.hid (HI.out.term HO.out HN.out)
    have e0:=HI.out.ob.cell 0 rfl
    have e1:=HI.out.ob.cell 1 rfl
    have e2:=HI.out.ob.cell 2 rfl
    have e3:=HI.out.ob.cell 3 rfl
    have el:=HI.out.ob.lt
    clear hp hwf hal hbn hcs hl5 htt hjl hj
    go_upto_region 8 with fail
    by_cases h5:o=5
    ·subst h5
     obtain ⟨hd,r,rfl⟩:=Fd.wf_app HWF.out
     go_wp2_with fail
     refine (fapp_any n v hd r _ _ _ _ wr HI.out.fe HTM.out (fun x hx=>Fd.wf_consts HWF.out x (List.mem_cons_of_mem _ hx)) HCS.out (fun data d h1 h2=>Fd.foldF_bulk (by omega) h2 fun x hx=>(HI.out.fo.good x (Fd.dataOf_mem h1 x hx)).2) (fun h4 _ _=>Fd.wf_lams HWF.out hd (by simp) h4) (by have:=HAL.out;omega) (by have:=HBN.out;omega)).mono ?_
     intro e w' he
     obtain ⟨o2,n2,ov2,ot2,lv2,cv2,lt2,ct2,rfl,hrb,hfin⟩:=HI.out.fin he
     have HRB:=Lib.hid hrb
     have HFIN:=Lib.hid hfin
     clear hrb hfin he e0 e1 e2 e3 el
     have r0:=HRB.out.cell 0 rfl
     have r1:=HRB.out.cell 1 rfl
     have r2:=HRB.out.cell 2 rfl
     have r3:=HRB.out.cell 3 rfl
     have k0:=HRB.out.free 0
     have k1:=HRB.out.free 1
     have k2:=HRB.out.free 2
     have k3:=HRB.out.free 3
     have rl:=HRB.out.lt
     have HBF:=Lib.hid (set4_box HRB.out (.int .i64 o2) (.int .i64 n2) (.slice ov2 lv2 cv2) (.slice ot2 lt2 ct2))
     have q0:=HBF.out.cell 0 rfl
     have q1:=HBF.out.cell 1 rfl
     have q2:=HBF.out.cell 2 rfl
     have q3:=HBF.out.cell 3 rfl
     go_wp2_with fail
     refine bodyPost_ret (v:=.agg #[.int .i64 o2,.int .i64 n2,.slice ov2 lv2 cv2,.slice ot2 lt2 ct2]) (by simp[results,Tryz.f24,go_sem,q0,q1,q2,q3]) rfl ?_
     rw[HYE.out]
     exact HFIN.out
    have f5:(o==5)=false:=by simpa using h5
    by_cases h3:o=3
    ·subst h3
     obtain ⟨a,b,c,rfl⟩:=Fd.wf_if HWF.out
     rw[Fd.post_cs (by decide) (by decide)] at HYE
     go_wp2_with fail
     refine (fchoice_any Fd.foldF n v a b c _ _ _ _ wr HI.out.fe HTM.out (fun h0=>Fd.wf_consts HWF.out a (by simp) h0)).mono ?_
     intro e w' he
     obtain ⟨o2,n2,ov2,ot2,lv2,cv2,lt2,ct2,rfl,hrb,hfin⟩:=HI.out.fin (HI.out.fin2 he)
     have HRB:=Lib.hid hrb
     have HFIN:=Lib.hid hfin
     clear hrb hfin he f5 e0 e1 e2 e3 el
     have r0:=HRB.out.cell 0 rfl
     have r1:=HRB.out.cell 1 rfl
     have r2:=HRB.out.cell 2 rfl
     have r3:=HRB.out.cell 3 rfl
     have k0:=HRB.out.free 0
     have k1:=HRB.out.free 1
     have k2:=HRB.out.free 2
     have k3:=HRB.out.free 3
     have rl:=HRB.out.lt
     have HBF:=Lib.hid (set4_box HRB.out (.int .i64 o2) (.int .i64 n2) (.slice ov2 lv2 cv2) (.slice ot2 lt2 ct2))
     have q0:=HBF.out.cell 0 rfl
     have q1:=HBF.out.cell 1 rfl
     have q2:=HBF.out.cell 2 rfl
     have q3:=HBF.out.cell 3 rfl
     go_wp2_with fail
     refine bodyPost_ret (v:=.agg #[.int .i64 o2,.int .i64 n2,.slice ov2 lv2 cv2,.slice ot2 lt2 ct2]) (by simp[results,Tryz.f24,go_sem,q0,q1,q2,q3]) rfl ?_
     rw[HYE.out]
     exact HFIN.out
    have f3:(o==3)=false:=by simpa using h3
    by_cases h10:o=10
    ·subst h10
     go_wp2_with fail
     refine (fprim_any n t' ot5 lt5 ct5 wr HI.out.fe HI.out.row.rep HN.out (by have:=Trm.allL_length t';have:=HAL.out;omega) (fun x hx=>Fd.wf_consts HWF.out x hx) HCS.out (fun data d h1 h2=>Fd.foldF_bulk (by omega) h2 fun x hx=>(HI.out.fo.good x (Fd.dataOf_mem h1 x hx)).2)).mono ?_
     intro e w' he
     obtain ⟨o2,n2,ov2,ot2,lv2,cv2,lt2,ct2,rfl,hrb,hfin⟩:=HI.out.fin he
     have HRB:=Lib.hid hrb
     have HFIN:=Lib.hid hfin
     clear hrb hfin he f5 f3 e0 e1 e2 e3 el
     have r0:=HRB.out.cell 0 rfl
     have r1:=HRB.out.cell 1 rfl
     have r2:=HRB.out.cell 2 rfl
     have r3:=HRB.out.cell 3 rfl
     have k0:=HRB.out.free 0
     have k1:=HRB.out.free 1
     have k2:=HRB.out.free 2
     have k3:=HRB.out.free 3
     have rl:=HRB.out.lt
     have HBF:=Lib.hid (set4_box HRB.out (.int .i64 o2) (.int .i64 n2) (.slice ov2 lv2 cv2) (.slice ot2 lt2 ct2))
     have q0:=HBF.out.cell 0 rfl
     have q1:=HBF.out.cell 1 rfl
     have q2:=HBF.out.cell 2 rfl
     have q3:=HBF.out.cell 3 rfl
     go_wp2_with fail
     refine bodyPost_ret (v:=.agg #[.int .i64 o2,.int .i64 n2,.slice ov2 lv2 cv2,.slice ot2 lt2 ct2]) (by simp[results,Tryz.f24,go_sem,q0,q1,q2,q3]) rfl ?_
     rw[HYE.out]
     exact HFIN.out
    have f10:(o==10)=false:=by simpa using h10
    by_cases h6:o=6
    ·subst h6
     rw[Fd.post_cs (by decide) (by decide)] at HYE
     go_wp2_with fail
     refine (fseq_any (FH (S3w S w.heap.size q) fb sl') t' _ wr HI.out.row.rep HI.out.row.1 (Fd.op_seq HWF.out rfl) (Fd.wf_seqs HWF.out) (by have:=HAL.out;omega)).mono ?_
     intro e w' he
     obtain ⟨o2,n2,ov2,ot2,lv2,cv2,lt2,ct2,rfl,hrb,hfin⟩:=HI.out.fin (HI.out.fin2 he)
     have HRB:=Lib.hid hrb
     have HFIN:=Lib.hid hfin
     clear hrb hfin he f5 f3 f10 e0 e1 e2 e3 el
     have r0:=HRB.out.cell 0 rfl
     have r1:=HRB.out.cell 1 rfl
     have r2:=HRB.out.cell 2 rfl
     have r3:=HRB.out.cell 3 rfl
     have k0:=HRB.out.free 0
     have k1:=HRB.out.free 1
     have k2:=HRB.out.free 2
     have k3:=HRB.out.free 3
     have rl:=HRB.out.lt
     have HBF:=Lib.hid (set4_box HRB.out (.int .i64 o2) (.int .i64 n2) (.slice ov2 lv2 cv2) (.slice ot2 lt2 ct2))
     have q0:=HBF.out.cell 0 rfl
     have q1:=HBF.out.cell 1 rfl
     have q2:=HBF.out.cell 2 rfl
     have q3:=HBF.out.cell 3 rfl
     go_wp2_with fail
     refine bodyPost_ret (v:=.agg #[.int .i64 o2,.int .i64 n2,.slice ov2 lv2 cv2,.slice ot2 lt2 ct2]) (by simp[results,Tryz.f24,go_sem,q0,q1,q2,q3]) rfl ?_
     rw[HYE.out]
     exact HFIN.out
    have f6:(o==6)=false:=by simpa using h6
    by_cases h8:o=8
    ·subst h8
     rw[Fd.post_cs (by decide) (by decide)] at HYE
     go_wp2_with fail
     refine (flet_any (FH (S3w S w.heap.size q) fb sl') v t' _ _ wr (ints_shown HI.out.vars (Shown.less _ fun _ _ h=>.inl h) (Nat.le_refl _)) HI.out.row.rep HI.out.row.1 (Fd.wf_let HWF.out) (by have:=HAL.out;omega) (by have:=HBN.out;omega)).mono ?_
     intro e w' he
     obtain ⟨o2,n2,ov2,ot2,lv2,cv2,lt2,ct2,rfl,hrb,hfin⟩:=HI.out.fin (HI.out.fin2 he)
     have HRB:=Lib.hid hrb
     have HFIN:=Lib.hid hfin
     clear hrb hfin he f5 f3 f10 f6 e0 e1 e2 e3 el
     have r0:=HRB.out.cell 0 rfl
     have r1:=HRB.out.cell 1 rfl
     have r2:=HRB.out.cell 2 rfl
     have r3:=HRB.out.cell 3 rfl
     have k0:=HRB.out.free 0
     have k1:=HRB.out.free 1
     have k2:=HRB.out.free 2
     have k3:=HRB.out.free 3
     have rl:=HRB.out.lt
     have HBF:=Lib.hid (set4_box HRB.out (.int .i64 o2) (.int .i64 n2) (.slice ov2 lv2 cv2) (.slice ot2 lt2 ct2))
     have q0:=HBF.out.cell 0 rfl
     have q1:=HBF.out.cell 1 rfl
     have q2:=HBF.out.cell 2 rfl
     have q3:=HBF.out.cell 3 rfl
     go_wp2_with fail
     refine bodyPost_ret (v:=.agg #[.int .i64 o2,.int .i64 n2,.slice ov2 lv2 cv2,.slice ot2 lt2 ct2]) (by simp[results,Tryz.f24,go_sem,q0,q1,q2,q3]) rfl ?_
     rw[HYE.out]
     exact HFIN.out
    have f8:(o==8)=false:=by simpa using h8
    by_cases h9:o=9
    ·subst h9
     have hlen:=Fd.wf_fix HWF.out
     obtain ⟨last,hlast⟩:∃last,t'[v.length]?=some last:=⟨_,List.getElem?_eq_getElem (by omega)⟩
     rw[Fd.post_fix hlast] at HYE
     obtain ⟨eb,eo,es,he,_,hcl,hcell,hir⟩:=SlC.at (show SlC _ _ _ _ _ _ from HI.out.row.rep) (Below.refl _ _) hlast
     subst he
     obtain ⟨oy,ny,ky,oz,nz,kz,rfl,_,_,_,_⟩:=trmR_form hir
     have d0:=(hide_some (hcell 0 _ rfl)).2
     have d1:=(hide_some (hcell 1 _ rfl)).2
     have d2:=(hide_some (hcell 2 _ rfl)).2
     have d3:=(hide_some (hcell 3 _ rfl)).2
     simp only[Nat.add_zero] at d0
     have dl:=cell_lt d0
     have HLR:=Lib.hid hir
     have hl':=(SlC.lens (show SlC _ _ _ _ _ _ from HI.out.vars)).1
     have hmem:=List.mem_of_getElem? hlast
     have HLA:=Lib.hid (show last.all≤1000∧last.bnd.length≤3000000 from by
      refine ⟨by have:=Trm.allL_mem hmem;have:=HAL.out;omega,?_⟩
      have h1:last.bnd.length≤(Trm.bndL t').length:=Fd.count_len _ _ fun a=>Fd.bnd_mem a hmem
      have:=HBN.out
      omega)
     have hl5:=HL5.out
     rw[hlen] at hl5
     rw[←hl'] at d0 d1 d2 d3 hl5
     clear hir hcell hcl hmem hlast hlen hl'
     go_upto_region 20 with fail
     obtain ⟨W6,hW6⟩:∃W6,wr.alloc (.cells #[.int .i64 last.op,.int .i64 last.n,.slice oy ny ky,.slice oz nz kz] 26)=W6:=⟨_,rfl⟩
     rw[hW6]
     have hb6:Below wr.heap.size wr W6:=by rw[←hW6];exact Below.one _ _
     have HE6:=Lib.hid (show BoxL W6 wr.heap.size 26 [.int .i64 last.op,.int .i64 last.n,.slice oy ny ky,.slice oz nz kz] from by rw[←hW6];exact BoxL.new rfl _ _)
     have HI6:=Lib.hid (HI.out.keep hb6)
     have HLR6:=Lib.hid (HLR.out.shown (Shown.below hb6) hb6.size)
     have HTM6:=Lib.hid (HTM.out.shown (Shown.below hb6) hb6.size)
     have HB6:=Lib.hid hb6
     obtain ⟨r,hr⟩:∃r,v.any (fun x=>Fd.named x last)=r:=⟨_,rfl⟩
     rw[hr] at HYE
     have HCC:=Lib.hid (containsG_int IntR 42 #[.pointer (some ⟨wr.heap.size,0,none⟩)] (fun x=>Fd.named x last) r v (.slice o' l' c') W6.heap.size W6 (ints_unhide HI6.out.vars) (Nat.le_refl _) (fun _ _=>rfl) (fun x _ c0 w' hc hb=>by
      obtain ⟨hc,_⟩:=hc
      simp only[List.cons.injEq,and_true] at hc
      subst hc
      exact fterm1_any last _ _ _ _ x wr.heap.size w' (HE6.out.keep hb) (HLR6.out.shown (Shown.below hb) hb.size).unhide HLA.out.1 HLA.out.2) hr)
     clear hb6 hW6 d0 d1 d2 d3 dl e0 e1 e2 e3 el hr hl5 HLR HLA HTM
     have e2:=HI6.out.ob.cell 2 rfl
     have el:=HI6.out.ob.lt
     go_wp2_with fail
     refine HCC.out.mono ?_
     rintro e W7 ⟨rfl,hb7⟩
     have HI7:=Lib.hid (HI6.out.keep hb7)
     have HE7:=Lib.hid (HE6.out.keep hb7)
     have HLR7:=Lib.hid (HLR6.out.shown (Shown.below hb7) hb7.size)
     have HTM7:=Lib.hid (HTM6.out.shown (Shown.below hb7) hb7.size)
     have HB7:=Lib.hid (HB6.out.trans (hb7.mono HB6.out.size))
     clear hb7 e2 el HCC f5 f3 f10 f6 f8 HLR6 HTM6 HB6 HE6 HI6
     have e0:=HI7.out.ob.cell 0 rfl
     have e1:=HI7.out.ob.cell 1 rfl
     have e2:=HI7.out.ob.cell 2 rfl
     have e3:=HI7.out.ob.cell 3 rfl
     have el:=HI7.out.ob.lt
     have d0:=HE7.out.cell 0 rfl
     have d1:=HE7.out.cell 1 rfl
     have d2:=HE7.out.cell 2 rfl
     have d3:=HE7.out.cell 3 rfl
     have dl:=HE7.out.lt
     cases r with
     | true=>
      obtain ⟨hrb,hfin⟩:=HI.out.fin3 (x:=.mk 9 n v t') HTM7.out HB7.out
      have HRB:=Lib.hid hrb
      have HFIN:=Lib.hid hfin
      clear hrb hfin
      have r0:=HRB.out.cell 0 rfl
      have r1:=HRB.out.cell 1 rfl
      have r2:=HRB.out.cell 2 rfl
      have r3:=HRB.out.cell 3 rfl
      have k0:=HRB.out.free 0
      have k1:=HRB.out.free 1
      have k2:=HRB.out.free 2
      have k3:=HRB.out.free 3
      have rl:=HRB.out.lt
      have HBF:=Lib.hid (set4_box HRB.out (.int .i64 9) (.int .i64 n) (.slice o' l' c') (.slice (some ⟨eb,eo,none⟩) lt5 ct5))
      have q0:=HBF.out.cell 0 rfl
      have q1:=HBF.out.cell 1 rfl
      have q2:=HBF.out.cell 2 rfl
      have q3:=HBF.out.cell 3 rfl
      go_wp2_with fail
      refine bodyPost_ret (v:=.agg #[.int .i64 9,.int .i64 n,.slice o' l' c',.slice (some ⟨eb,eo,none⟩) lt5 ct5]) (by simp[results,Tryz.f24,go_sem,q0,q1,q2,q3]) rfl ?_
      rw[HYE.out]
      exact HFIN.out
     | false=>
      obtain ⟨hrb,hfin⟩:=HI.out.fin3 (x:=last) HLR7.out HB7.out
      have HRB:=Lib.hid hrb
      have HFIN:=Lib.hid hfin
      clear hrb hfin
      have r0:=HRB.out.cell 0 rfl
      have r1:=HRB.out.cell 1 rfl
      have r2:=HRB.out.cell 2 rfl
      have r3:=HRB.out.cell 3 rfl
      have k0:=HRB.out.free 0
      have k1:=HRB.out.free 1
      have k2:=HRB.out.free 2
      have k3:=HRB.out.free 3
      have rl:=HRB.out.lt
      have HBF:=Lib.hid (set4_box HRB.out (.int .i64 last.op) (.int .i64 last.n) (.slice oy ny ky) (.slice oz nz kz))
      have q0:=HBF.out.cell 0 rfl
      have q1:=HBF.out.cell 1 rfl
      have q2:=HBF.out.cell 2 rfl
      have q3:=HBF.out.cell 3 rfl
      go_wp2_with fail
      refine bodyPost_ret (v:=.agg #[.int .i64 last.op,.int .i64 last.n,.slice oy ny ky,.slice oz nz kz]) (by simp[results,Tryz.f24,go_sem,q0,q1,q2,q3]) rfl ?_
      rw[HYE.out]
      exact HFIN.out
    have f9:(o==9)=false:=by simpa using h9
    by_cases h12:o=12
    ·subst h12
     obtain ⟨a,rfl⟩:=Fd.wf_check HWF.out
     rw[Fd.post_check] at HYE
     obtain ⟨eb,eo,es,he,_,hcl,hcell,hir⟩:=SlC.at (show SlC _ _ _ _ _ _ from HI.out.row.rep) (Below.refl _ _) (j:=0) (x:=a) rfl
     subst he
     obtain ⟨oy,ny,ky,oz,nz,kz,rfl,_,_,_,_⟩:=trmR_form hir
     have d0:=(hide_some (hcell 0 _ rfl)).2
     have d1:=(hide_some (hcell 1 _ rfl)).2
     have d2:=(hide_some (hcell 2 _ rfl)).2
     have d3:=(hide_some (hcell 3 _ rfl)).2
     simp only[Nat.add_zero,Nat.zero_mul] at d0 d1 d2 d3
     have dl:=cell_lt d0
     have HLR:=Lib.hid hir
     have HCV:=Lib.hid (fvalue_to a oy oz ny ky nz kz wr)
     obtain ⟨q6,hq6⟩:∃q6,Fd.value a=q6:=⟨_,rfl⟩
     rw[hq6] at HYE HCV
     obtain rfl:lt5=1:=by have:=HL5.out;simpa using this
     clear hir hcell hcl hq6
     go_wp2_with fail
     refine HCV.out.mono ?_
     rintro e W4 ⟨rfl,hb4⟩
     have HI4:=Lib.hid (HI.out.keep hb4)
     have HLR4:=Lib.hid (HLR.out.shown (Shown.below hb4) hb4.size)
     have HTM4:=Lib.hid (HTM.out.shown (Shown.below hb4) hb4.size)
     have HB4:=Lib.hid hb4
     have HD:=Lib.hid (show W4.cell? ⟨eb,eo,none⟩=some (.int .i64 a.op)∧W4.cell? ⟨eb,eo+1,none⟩=some (.int .i64 a.n)∧W4.cell? ⟨eb,eo+2,none⟩=some (.slice oy ny ky)∧W4.cell? ⟨eb,eo+3,none⟩=some (.slice oz nz kz)∧eb<W4.heap.size from
      ⟨(hb4.cell (p:=⟨eb,eo,none⟩) dl).trans d0,(hb4.cell (p:=⟨eb,eo+1,none⟩) dl).trans d1,(hb4.cell (p:=⟨eb,eo+2,none⟩) dl).trans d2,(hb4.cell (p:=⟨eb,eo+3,none⟩) dl).trans d3,Nat.lt_of_lt_of_le dl hb4.size⟩)
     clear hb4 d0 d1 d2 d3 dl e0 e1 e2 e3 el HCV f5 f3 f10 f6 f8 f9
     have e0:=HI4.out.ob.cell 0 rfl
     have e1:=HI4.out.ob.cell 1 rfl
     have e2:=HI4.out.ob.cell 2 rfl
     have e3:=HI4.out.ob.cell 3 rfl
     have el:=HI4.out.ob.lt
     cases q6 with
     | true=>
      obtain ⟨d0,d1,d2,d3,dl⟩:=HD.out
      obtain ⟨hrb,hfin⟩:=HI.out.fin3 (x:=a) HLR4.out HB4.out
      have HRB:=Lib.hid hrb
      have HFIN:=Lib.hid hfin
      clear hrb hfin
      have r0:=HRB.out.cell 0 rfl
      have r1:=HRB.out.cell 1 rfl
      have r2:=HRB.out.cell 2 rfl
      have r3:=HRB.out.cell 3 rfl
      have k0:=HRB.out.free 0
      have k1:=HRB.out.free 1
      have k2:=HRB.out.free 2
      have k3:=HRB.out.free 3
      have rl:=HRB.out.lt
      have HBF:=Lib.hid (set4_box HRB.out (.int .i64 a.op) (.int .i64 a.n) (.slice oy ny ky) (.slice oz nz kz))
      have q0:=HBF.out.cell 0 rfl
      have q1:=HBF.out.cell 1 rfl
      have q2:=HBF.out.cell 2 rfl
      have q3:=HBF.out.cell 3 rfl
      go_wp2_with fail
      refine bodyPost_ret (v:=.agg #[.int .i64 a.op,.int .i64 a.n,.slice oy ny ky,.slice oz nz kz]) (by simp[results,Tryz.f24,go_sem,q0,q1,q2,q3]) rfl ?_
      rw[HYE.out]
      exact HFIN.out
     | false=>
      obtain ⟨hrb,hfin⟩:=HI.out.fin3 (x:=.mk 12 n v [a]) HTM4.out HB4.out
      have HRB:=Lib.hid hrb
      have HFIN:=Lib.hid hfin
      clear hrb hfin
      have r0:=HRB.out.cell 0 rfl
      have r1:=HRB.out.cell 1 rfl
      have r2:=HRB.out.cell 2 rfl
      have r3:=HRB.out.cell 3 rfl
      have k0:=HRB.out.free 0
      have k1:=HRB.out.free 1
      have k2:=HRB.out.free 2
      have k3:=HRB.out.free 3
      have rl:=HRB.out.lt
      have HBF:=Lib.hid (set4_box HRB.out (.int .i64 12) (.int .i64 n) (.slice o' l' c') (.slice (some ⟨eb,eo,none⟩) 1 ct5))
      have q0:=HBF.out.cell 0 rfl
      have q1:=HBF.out.cell 1 rfl
      have q2:=HBF.out.cell 2 rfl
      have q3:=HBF.out.cell 3 rfl
      go_wp2_with fail
      refine bodyPost_ret (v:=.agg #[.int .i64 12,.int .i64 n,.slice o' l' c',.slice (some ⟨eb,eo,none⟩) 1 ct5]) (by simp[results,Tryz.f24,go_sem,q0,q1,q2,q3]) rfl ?_
      rw[HYE.out]
      exact HFIN.out
    have f12:(o==12)=false:=by simpa using h12
    rw[Fd.post_out h5 h3 h10 h6 h8 h9 h12] at HYE
    obtain ⟨hrb,hfin⟩:=HI.out.fin3 (x:=.mk o n v t') HTM.out (Below.refl _ _)
    have HRB:=Lib.hid hrb
    have HFIN:=Lib.hid hfin
    clear hrb hfin
    have r0:=HRB.out.cell 0 rfl
    have r1:=HRB.out.cell 1 rfl
    have r2:=HRB.out.cell 2 rfl
    have r3:=HRB.out.cell 3 rfl
    have k0:=HRB.out.free 0
    have k1:=HRB.out.free 1
    have k2:=HRB.out.free 2
    have k3:=HRB.out.free 3
    have rl:=HRB.out.lt
    have HBF:=Lib.hid (set4_box HRB.out (.int .i64 o) (.int .i64 n) (.slice o' l' c') (.slice ot5 lt5 ct5))
    have q0:=HBF.out.cell 0 rfl
    have q1:=HBF.out.cell 1 rfl
    have q2:=HBF.out.cell 2 rfl
    have q3:=HBF.out.cell 3 rfl
    go_wp2_with fail
    refine bodyPost_ret (v:=.agg #[.int .i64 o,.int .i64 n,.slice o' l' c',.slice ot5 lt5 ct5]) (by simp[results,Tryz.f24,go_sem,q0,q1,q2,q3]) rfl ?_
    rw[HYE.out]
    exact HFIN.out
end
end Go.Proofs.YtgbibibmpoekiaaGreatDoor
