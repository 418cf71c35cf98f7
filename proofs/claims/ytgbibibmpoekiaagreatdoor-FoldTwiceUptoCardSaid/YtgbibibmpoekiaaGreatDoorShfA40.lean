/-
  What the proofs lean on: FwX, Bnf.
-/
import Derived.Test.YtgbibibmpoekiaaGreatDoorShfA14
import Derived.Test.YtgbibibmpoekiaaGreatDoorShfA29
import Derived.Test.YtgbibibmpoekiaaGreatDoorShfA37
import Derived.Test.YtgbibibmpoekiaaGreatDoorShfA39
set_option maxRecDepth 100000
set_option maxHeartbeats 16000000
namespace Go.Proofs.YtgbibibmpoekiaaGreatDoor
section
open Go Go.RowKit
theorem data_oneS {w:World} {B:Nat}:∀{l:List Dat} {xs:List Value},CellsD w B l xs→∀u∈xs,u.oneCell'=true
 | [],_,h,u,hu=>by rw[CellsD] at h;subst h;cases hu
 | .mk k n d s l'::l,xs,⟨c0,c1,c2,c3,c4,r,he,hx,hr⟩,u,hu=>by
  subst he
  obtain ⟨sl,he,_,_,_,_,o,len,cap,rfl,_⟩:=hx.open
  simp only[Value.agg.injEq,Array.mk.injEq,List.cons.injEq,and_true] at he
  obtain ⟨rfl,rfl,rfl,rfl,rfl⟩:=he
  simp only[List.mem_cons] at hu
  rcases hu with rfl | rfl | rfl | rfl | rfl | hu
  ·rfl
  ·rfl
  ·rfl
  ·rfl
  ·rfl
  ·exact data_oneS hr u hu
theorem cloneS_any (S:Nat→Prop) (l:List Dat) (v:Value) (w:World) (hv:RepS (hide w S) w.heap.size l v) (hS:∀b,S b→b<w.heap.size) (hm:l.length≤1000000) :
  Calls Tryz.prog 23 #[v] w fun e w'=>∃o len cap,e=.returned (.slice o len cap)∧GrownS w' S w.heap.size l (.slice o len cap)∧Below w.heap.size w w':=by
 obtain ⟨o,len,cap,rfl,hlen,hcap,hmax,h4⟩:=hv
 have HL:=Lib.hid hlen
 have hm':len≤1000000:=by omega
 cases o with
 | none=>
  obtain ⟨rfl,rfl⟩:=h4
  simp at hlen
  subst hlen
  clear HL
  have he:=fun (w:World)=>Lib.run_eql_slice_nil (P:=Tryz.prog) w 22 45 none 0 0 0 0 Tryz.underlying22
  have HG:=Lib.hid (GrownS.nil w hS (Nat.le_refl _))
  go_enter Tryz.func23,Tryz.ntmps23
  go_wp2_with fail
  go_ret
  exact ⟨_,_,_,rfl,HG.out,Below.refl _ _⟩
 | some a=>
  obtain ⟨xs,hc,hr⟩:=repC_row _ _ h4.2
  have hxl:=hc.length
  have hcell:∀j u,xs[j]?=some u→w.cell? (a.add j)=some u:=fun j u hj=>by
   have hne:l≠[]:=fun h=>by
    have h1:=(List.getElem?_eq_some_iff.1 hj).1
    rw[hxl,h] at h1
    simp at h1
   rw[add_none (h4.1 hne).1]
   exact (hide_some (hr j u hj)).2
  have he:=fun (w:World)=>Lib.run_eql_slice_nil (P:=Tryz.prog) w 22 45 (some a) len cap 0 0 Tryz.underlying22
  have HO:=Lib.hid (ownsRow_new (W:=w) (b:=w.heap.size) (base:=w.heap.size) rfl (Nat.le_refl _) 45 5 0 [] rfl (by unfold maxLen;omega))
  obtain ⟨i0,hi,hz0,hz1,hz2⟩:=info_parts info_datum
  have HXL:=Lib.hid (show xs.length=len*5 from by rw[hxl,←hlen])
  have HC:=Lib.hid hc
  have HS:=Lib.hid hS
  have HCELL:=Lib.hid (show ∀j u,xs[j]?=some u→(w.alloc (.cells [].toArray 45)).cell? (a.add j)=some u from fun j u hj=>by
   have h:=hcell j u hj
   have hsp:=cell_spot h
   rw[show (a.add j)=⟨(a.add j).block,(a.add j).off,(a.add j).spot⟩ from rfl,hsp.1] at h ⊢
   exact keepC (Below.one w _) h)
  clear hlen hxl hc hr hcell h4 hS
  go_enter Tryz.func23,Tryz.ntmps23
  go_wp2_with (at_builtin;refine wpList_append_own _ rfl (.tmp 5) (.tmp 6) 22 rfl w.heap.size 45 i0 (.agg #[.int .i64 0,.int .i64 0,.int .i64 0,.string ⟨#[]⟩,.slice none 0 0]) 5 64 Tryz.underlying22 hi hz0 hz1 hz2 rfl (by decide) (.slice (some ⟨w.heap.size,0,none⟩) 0 0) 0 [] rfl HO.out a len cap xs rfl HXL.out HCELL.out (data_oneS HC.out) (by unfold maxLen;omega) (by omega) (by simp) ?_)
  intro v' w2 hown hgrow _
  have hown:w2.ownsRow w.heap.size 45 5 v' len xs:=by simpa using hown
  have HB:=Lib.hid (show Below w.heap.size w w2 from (Below.one w _).grown hgrow (by simp) (fun g hg=>by simp[Value.ownBlock] at hg;omega))
  obtain ⟨o',l',c',rfl⟩:∃o' l' c',v'=.slice o' l' c':=by
   rcases hown.2 with ⟨h,_⟩ | ⟨g,cap,cur,h,_⟩
   ·exact ⟨_,_,_,h⟩
   ·exact ⟨_,_,_,h⟩
  have HG:=Lib.hid (show GrownS w2 S w.heap.size l (.slice o' l' c') from by
   refine ⟨fun b hb=>Nat.lt_of_lt_of_le (HS.out b hb) HB.out.size,fun g hg hs=>?_,HB.out.size,xs,by rw[←HL.out];exact hown,HC.out.mono fun _ _ hx=>hx.shown (shown_more HB.out fun b hs=>?_) HB.out.size⟩
   ·have:=(hown.lt g hg).1;have:=HS.out g hs;omega
   ·rcases hs with hs | hs
    ·exact .inl hs
    ·exact .inr (hown.lt b hs).1)
  clear hown hgrow
  go_wp2_with fail
  go_ret
  exact ⟨_,_,_,rfl,HG.out,HB.out⟩
def Fd.conv (cs:List Dat) (x:Trm):Option (Trm × List Dat):=if Fd.okP cs x then some (Fd.term Fd.foldF x cs) else none
def CvPostS (S:Nat→Prop) (p:Option (Trm × List Dat)) (w:World) (e:Ending) (w':World):Prop:=Below w.heap.size w w'∧match p with
 | none=>e=.returned (.tuple #[.agg #[.slice none 0 0,.int .i64 0,.int .i64 0,.slice none 0 0,.slice none 0 0],.int .i64 5])
 | some (x,cs)=>∃(oc:Option Addr) (lc kc:Nat) (o n:Int) (ov:Option Addr) (lv cv:Nat) (ot:Option Addr) (lt ct:Nat),e=.returned (.tuple #[.agg #[.slice oc lc kc,.int .i64 o,.int .i64 n,.slice ov lv cv,.slice ot lt ct],.int .i64 0])∧RepS (hide w' S) w'.heap.size cs (.slice oc lc kc)∧TrmR (hide w' S) w'.heap.size x [.int .i64 o,.int .i64 n,.slice ov lv cv,.slice ot lt ct]
def CvPost (p:Option (Trm × List Dat)) (w:World) (e:Ending) (w':World):Prop:=Below w.heap.size w w'∧match p with
 | none=>e=.returned (.tuple #[.agg #[.slice none 0 0,.int .i64 0,.int .i64 0,.slice none 0 0,.slice none 0 0],.int .i64 5])
 | some (x,cs)=>∃(oc:Option Addr) (lc kc:Nat) (o n:Int) (ov:Option Addr) (lv cv:Nat) (ot:Option Addr) (lt ct:Nat),e=.returned (.tuple #[.agg #[.slice oc lc kc,.int .i64 o,.int .i64 n,.slice ov lv cv,.slice ot lt ct],.int .i64 0])∧RepS w' w'.heap.size cs (.slice oc lc kc)∧TrmR w' w'.heap.size x [.int .i64 o,.int .i64 n,.slice ov lv cv,.slice ot lt ct]
theorem CvPostS.plain {S:Nat→Prop} {p:Option (Trm × List Dat)} {w w':World} {e:Ending} (h:CvPostS S p w e w'):CvPost p w e w':=by
 obtain ⟨h1,h2⟩:=h
 refine ⟨h1,?_⟩
 cases p with
 | none=>exact h2
 | some q=>
  obtain ⟨x,cs⟩:=q
  obtain ⟨oc,lc,kc,o,n,ov,lv,cv,ot,lt,ct,rfl,h3,h4⟩:=h2
  exact ⟨oc,lc,kc,o,n,ov,lv,cv,ot,lt,ct,rfl,h3.unhide,h4.unhide⟩
theorem set5_boxL {W:World} {b:Nat} {t:TypeId} {c0 c1 c2 c3 c4:Value} (h:BoxL W b t [c0,c1,c2,c3,c4]) (d0 d1 d2 d3 d4:Value):BoxL (set5 W b d0 d1 d2 d3 d4) b t [d0,d1,d2,d3,d4]:=((((h.set 0 d0).set 1 d1).set 2 d2).set 3 d3).set 4 d4
theorem set5_turned (W:World) {S:Nat→Prop} {b:Nat} (hb:S b) (d0 d1 d2 d3 d4:Value):Turned S W (set5 W b d0 d1 d2 d3 d4):=((((Turned.set _ _ _ hb).next (.set _ _ _ hb)).next (.set _ _ _ hb)).next (.set _ _ _ hb)).next (.set _ _ _ hb)
theorem fconvert_none {S:Nat→Prop} (cs:List Dat) (x:Trm) (cc c0 c1 c2 c3:Value) (B:Nat) (w:World) (hcon:RepS w B cs cc) (hbody:TrmR w B x [c0,c1,c2,c3]) (hB:B≤w.heap.size) (hs:x.all≤390) (hok:Fd.okP cs x=false) :
  Calls Tryz.prog 10 #[.agg #[cc,c0,c1,c2,c3]] w (CvPostS S none w):=by
 obtain ⟨q,r,u,q',r',u',rfl,rfl,rfl,rfl⟩:=hbody.shape2
 obtain ⟨oc,lc,kc,rfl⟩:∃o l c,cc=.slice o l c:=by obtain ⟨o,l,c,h,_⟩:=hcon;exact ⟨o,l,c,h⟩
 obtain ⟨W2,hW2⟩:∃W2,(w.alloc (.cells #[.slice oc lc kc,.int .i64 x.op,.int .i64 x.n,.slice q r u,.slice q' r' u'] 28)).alloc (.cells #[.slice none 0 0,.int .i64 0,.int .i64 0,.slice none 0 0,.slice none 0 0] 28)=W2:=⟨_,rfl⟩
 have HB2:=Lib.hid (show Below w.heap.size w W2 from by rw[←hW2];exact (Below.one w _).trans ((Below.one _ _).mono (by simp)))
 have HX2:=Lib.hid (show BoxL W2 w.heap.size 28 [.slice oc lc kc,.int .i64 x.op,.int .i64 x.n,.slice q r u,.slice q' r' u'] from by rw[←hW2];exact (BoxL.new rfl _ _).alloc _)
 have HR2:=Lib.hid (show BoxL W2 (w.heap.size+1) 28 [.slice none 0 0,.int .i64 0,.int .i64 0,.slice none 0 0,.slice none 0 0] from by rw[←hW2];exact BoxL.new (by simp) _ _)
 have HC:=Lib.hid (check2_any cs x (.slice oc lc kc) _ _ _ _ B W2 (hcon.kept (HB2.out.mono hB)) (TrmR.kept (HB2.out.mono hB) _ _ hbody) (Nat.le_trans hB HB2.out.size) hs 5 (by rw[hok];rfl))
 have HW:=Lib.hid hW2
 clear hcon hbody hW2
 go_enter Tryz.func10,Tryz.ntmps10
 go_upto_region 1 with fail
 rw[HW.out]
 clear HW
 have x0:=HX2.out.cell 0 rfl
 have x1:=HX2.out.cell 1 rfl
 have x2:=HX2.out.cell 2 rfl
 have x3:=HX2.out.cell 3 rfl
 have x4:=HX2.out.cell 4 rfl
 have xl:=HX2.out.lt
 go_wp2_with fail
 refine HC.out.mono ?_
 rintro e W3 ⟨rfl,hb3⟩
 have HB3:=Lib.hid (HB2.out.trans (hb3.mono HB2.out.size))
 have HR3:=Lib.hid (HR2.out.keep hb3)
 clear hb3 HC HX2 HR2 HB2 x0 x1 x2 x3 x4 xl
 have r0:=HR3.out.cell 0 rfl
 have r1:=HR3.out.cell 1 rfl
 have r2:=HR3.out.cell 2 rfl
 have r3:=HR3.out.cell 3 rfl
 have r4:=HR3.out.cell 4 rfl
 have k0:=HR3.out.free 0
 have k1:=HR3.out.free 1
 have k2:=HR3.out.free 2
 have k3:=HR3.out.free 3
 have k4:=HR3.out.free 4
 have rl:=HR3.out.lt
 have HBF:=Lib.hid (set5_boxL HR3.out (.slice none 0 0) (.int .i64 0) (.int .i64 0) (.slice none 0 0) (.slice none 0 0))
 have q0:=HBF.out.cell 0 rfl
 have q1:=HBF.out.cell 1 rfl
 have q2:=HBF.out.cell 2 rfl
 have q3:=HBF.out.cell 3 rfl
 have q4:=HBF.out.cell 4 rfl
 have HBB:=Lib.hid (HB3.out.trans (set5_below W3 (w.heap.size+1) w.heap.size (.slice none 0 0) (.int .i64 0) (.int .i64 0) (.slice none 0 0) (.slice none 0 0) (by omega)))
 go_wp2_with fail
 refine bodyPost_ret (v:=.tuple #[.agg #[.slice none 0 0,.int .i64 0,.int .i64 0,.slice none 0 0,.slice none 0 0],.int .i64 5]) (by simp[results,Tryz.results10,go_sem,q0,q1,q2,q3,q4]) rfl ⟨HBB.out,rfl⟩
theorem fconvert_some (cs:List Dat) (x:Trm) (cc c0 c1 c2 c3:Value) (S:Nat→Prop) (w:World) (hcon:RepS (hide w S) w.heap.size cs cc) (hbody:TrmR (hide w S) w.heap.size x [c0,c1,c2,c3]) (hSS:∀b,S b→b<w.heap.size) (hE:Env w) (hs:x.all≤390) (hok:Fd.okP cs x=true) (hcl:cs.length≤90000) (hbk:∀d∈cs,Dat.bulk d≤1048576) :
  Calls Tryz.prog 10 #[.agg #[cc,c0,c1,c2,c3]] w (CvPostS S (some (Fd.term Fd.foldF x cs)) w):=by
 obtain ⟨q,r,u,q',r',u',rfl,rfl,rfl,rfl⟩:=hbody.shape2
 obtain ⟨oc,lc,kc,rfl⟩:∃o l c,cc=.slice o l c:=by obtain ⟨o,l,c,h,_⟩:=hcon;exact ⟨o,l,c,h⟩
 obtain ⟨x',cs',hp⟩:∃x' cs',Fd.term Fd.foldF x cs=(x',cs'):=⟨_,_,rfl⟩
 have hok2:Fd.okP cs' x'=true:=by have:=Fd.term_ok Fd.foldF_right hok;rwa[hp] at this
 have hs2:x'.all≤390:=by have:=(Fd.term_small Fd.foldF x cs (Fd.wf_neat _ _ (Fd.okP_wf hok)).1).1;rw[hp] at this;exact Nat.le_trans this hs
 have hgood:∀d∈cs,Dat.right d 0=true∧Dat.bulk d≤1048576:=fun d hd=>by
  refine ⟨?_,hbk d hd⟩
  have h:=hok
  unfold Fd.okP at h
  simp only[Bool.and_eq_true,List.all_eq_true] at h
  exact h.1 d hd
 have hokay:Fd.Okay x cs:=by
  have h:=hok
  unfold Fd.okP at h
  simp only[Bool.and_eq_true] at h
  have:=Trm.newB_short h.2.2
  exact ⟨⟨_,_,_,h.2.1⟩,by omega,by omega,by omega⟩
 obtain ⟨W2,hW2⟩:∃W2,(w.alloc (.cells #[.slice oc lc kc,.int .i64 x.op,.int .i64 x.n,.slice q r u,.slice q' r' u'] 28)).alloc (.cells #[.slice none 0 0,.int .i64 0,.int .i64 0,.slice none 0 0,.slice none 0 0] 28)=W2:=⟨_,rfl⟩
 have HB2:=Lib.hid (show Below w.heap.size w W2 from by rw[←hW2];exact (Below.one w _).trans ((Below.one _ _).mono (by simp)))
 have HX2:=Lib.hid (show BoxL W2 w.heap.size 28 [.slice oc lc kc,.int .i64 x.op,.int .i64 x.n,.slice q r u,.slice q' r' u'] from by rw[←hW2];exact (BoxL.new rfl _ _).alloc _)
 have HR2:=Lib.hid (show BoxL W2 (w.heap.size+1) 28 [.slice none 0 0,.int .i64 0,.int .i64 0,.slice none 0 0,.slice none 0 0] from by rw[←hW2];exact BoxL.new (by simp) _ _)
 have HC:=Lib.hid (check2_any cs x (.slice oc lc kc) _ _ _ _ w.heap.size W2 (hcon.unhide.kept HB2.out) (TrmR.kept HB2.out _ _ hbody.unhide) HB2.out.size hs 0 (by rw[hok];rfl))
 have HC2:=Lib.hid (fun W cc c0 c1 c2 c3 h1 h2=>check2_any cs' x' cc c0 c1 c2 c3 W.heap.size W h1 h2 (Nat.le_refl _) hs2 0 (by rw[hok2];rfl))
 have HW:=Lib.hid hW2
 have HCON:=Lib.hid hcon
 have HBODY:=Lib.hid hbody
 have HSS:=Lib.hid hSS
 have HENV:=Lib.hid (EnvAt.of hE)
 have HGOOD:=Lib.hid hgood
 have HOKAY:=Lib.hid hokay
 have HP:=Lib.hid hp
 clear hcon hbody hSS hW2 hok2 hs2 hgood hokay hok hbk hE hp
 go_enter Tryz.func10,Tryz.ntmps10
 go_upto_region 1 with fail
 rw[HW.out]
 clear HW
 have x0:=HX2.out.cell 0 rfl
 have x1:=HX2.out.cell 1 rfl
 have x2:=HX2.out.cell 2 rfl
 have x3:=HX2.out.cell 3 rfl
 have x4:=HX2.out.cell 4 rfl
 have xl:=HX2.out.lt
 go_wp2_with fail
 refine HC.out.mono ?_
 rintro e W3 ⟨rfl,hb3⟩
 have HB3:=Lib.hid (HB2.out.trans (hb3.mono HB2.out.size))
 have HR3:=Lib.hid (HR2.out.keep hb3)
 have HX3:=Lib.hid (HX2.out.keep hb3)
 have HLO:=Lib.hid (show w.heap.size+2≤W3.heap.size from HR3.out.lt)
 clear hb3 HC HX2 HR2 HB2 x0 x1 x2 x3 x4 xl
 have x0:=HX3.out.cell 0 rfl
 have x1:=HX3.out.cell 1 rfl
 have x2:=HX3.out.cell 2 rfl
 have x3:=HX3.out.cell 3 rfl
 have x4:=HX3.out.cell 4 rfl
 have xl:=HX3.out.lt
 have HCL:=Lib.hid (cloneS_any (fun b=>S b∨b=w.heap.size+1) cs (.slice oc lc kc) W3 (HCON.out.shown (shown_more HB3.out fun b hb=>hb.imp id fun e=>by omega) HB3.out.size) (fun b hb=>hb.elim (fun hb=>Nat.lt_of_lt_of_le (HSS.out b hb) HB3.out.size) fun e=>by have:=HLO.out;omega) (by omega))
 go_wp2_with fail
 refine HCL.out.mono ?_
 rintro e W4 ⟨o4,l4,c4,rfl,hg4,hb4⟩
 have HX4:=Lib.hid (HX3.out.keep hb4)
 have HR4:=Lib.hid (HR3.out.keep hb4)
 have HB4:=Lib.hid (HB3.out.trans (hb4.mono HB3.out.size))
 have HG4:=Lib.hid hg4
 have HZ4:=Lib.hid hb4.size
 clear hb4 hg4 HCL HX3 HR3 x0 x1 x2 x3 x4 xl
 go_upto_region 4 with fail
 obtain ⟨W5,hW5⟩:∃W5,W4.alloc (.cells #[.slice o4 l4 c4] 50)=W5:=⟨_,rfl⟩
 rw[hW5]
 have hb5:Below W4.heap.size W4 W5:=by rw[←hW5];exact Below.one _ _
 have hz5:W5.heap.size=W4.heap.size+1:=by rw[←hW5];simp
 have HX5:=Lib.hid (HX4.out.keep hb5)
 have HR5:=Lib.hid (HR4.out.keep hb5)
 have HB5:=Lib.hid (HB4.out.trans (hb5.mono HB4.out.size))
 have HF5:=Lib.hid (show FoE w.heap.size W5 (fun b=>S b∨b=w.heap.size+1) W4.heap.size W3.heap.size (.slice o4 l4 c4) cs from by
  have hz4:=HZ4.out
  have hlo:=HLO.out
  refine ⟨⟨by rw[←hW5];exact BoxL.new rfl _ _,HG4.out.move (T:=fun _=>False) (.of_below hb5) (fun _ _ h=>h.elim) (fun b hb=>hb.imp id fun e=>by omega) fun b hb=>by
   rcases hb with (hb | hb) | hb
   ·have:=HSS.out b hb;have:=HB5.out.size;omega
   ·omega
   ·omega⟩,HENV.out.kept HB5.out,by omega,by omega,HGOOD.out,by omega⟩)
 have HXR:=Lib.hid (show TrmR (hide W5 (FH (fun b=>S b∨b=w.heap.size+1) W4.heap.size (.slice o4 l4 c4))) W5.heap.size x [.int .i64 x.op,.int .i64 x.n,.slice q r u,.slice q' r' u'] from by
  refine HBODY.out.shown (shown_more HB5.out fun b hb=>?_) HB5.out.size
  have hz4:=HZ4.out
  have hlo:=HLO.out
  rcases hb with ((hb | hb) | hb) | hb
  ·exact .inl hb
  ·exact .inr (by omega)
  ·exact .inr (by omega)
  ·have:=(HG4.out.block hb).1;exact .inr (by omega))
 have HCT:=Lib.hid (fterm_any x _ _ _ _ cs _ _ _ _ W5 HF5.out HXR.out HOKAY.out)
 rw[HP.out] at HCT
 clear hb5 hW5 hz5 HX4 HR4 HB4 HB3
 have x1:=HX5.out.cell 1 rfl
 have x2:=HX5.out.cell 2 rfl
 have x3:=HX5.out.cell 3 rfl
 have x4:=HX5.out.cell 4 rfl
 have xl:=HX5.out.lt
 go_wp2_with fail
 refine HCT.out.mono ?_
 rintro e W6 ⟨o6,n6,ov6,ot6,lv6,cv6,lt6,ct6,sl6,rfl,hf6,hx6,ht6,_⟩
 have HNT:=Lib.hid (show ∀b,FT W4.heap.size (.slice o4 l4 c4) b→w.heap.size+2≤b from fun b hb=>by
  have hz4:=HZ4.out
  have hlo:=HLO.out
  rcases hb with hb | hb
  ·omega
  ·have:=(HG4.out.block hb).1;omega)
 have HR6:=Lib.hid (ht6.box HR5.out fun h=>by have:=HNT.out _ h;omega)
 have HB6:=Lib.hid (HB5.out.trans (ht6.below (fun b hb=>by have:=HNT.out b hb;omega) HB5.out.size))
 obtain ⟨oc6,lc6,kc6,rfl,hq1,hq2⟩:=hf6.fo.row.form
 clear hq1 hq2
 have HF6:=Lib.hid hf6.fo.box
 have HRP:=Lib.hid (show RepS (hide W6 (SF (fun b=>S b∨b=w.heap.size+1) W4.heap.size)) W6.heap.size cs' (.slice oc6 lc6 kc6) from hf6.fo.row.rep)
 have HTR:=Lib.hid (show TrmR (hide W6 (SF (fun b=>S b∨b=w.heap.size+1) W4.heap.size)) W6.heap.size x' [.int .i64 o6,.int .i64 n6,.slice ov6 lv6 cv6,.slice ot6 lt6 ct6] from hx6.shown (Shown.less _ fun b _ h=>.inl h) (Nat.le_refl _))
 clear hf6 hx6 ht6 HCT HXR HF5 HX5 HR5 HB5 x1 x2 x3 x4 xl HG4 HNT
 go_upto_region 5 with fail
 obtain ⟨W7,hW7⟩:∃W7,W6.alloc (.cells #[.int .i64 o6,.int .i64 n6,.slice ov6 lv6 cv6,.slice ot6 lt6 ct6] 26)=W7:=⟨_,rfl⟩
 rw[hW7]
 have hb7:Below W6.heap.size W6 W7:=by rw[←hW7];exact Below.one _ _
 have HS7:=Lib.hid (show BoxL W7 W6.heap.size 26 [.int .i64 o6,.int .i64 n6,.slice ov6 lv6 cv6,.slice ot6 lt6 ct6] from by rw[←hW7];exact BoxL.new rfl _ _)
 have HF7:=Lib.hid (HF6.out.keep hb7)
 have HB7:=Lib.hid hb7
 clear hb7 hW7 HF6
 go_cut [6] (fun p wx=>p=.pointer (some ⟨W7.heap.size,0,none⟩)∧Hid (Below W7.heap.size W7 wx)∧Hid (BoxL wx W7.heap.size 28 [.slice oc6 lc6 kc6,.int .i64 o6,.int .i64 n6,.slice ov6 lv6 cv6,.slice ot6 lt6 ct6]))
 case first=>as_aux_lemma=>
  have s0:=HS7.out.cell 0 rfl
  have s1:=HS7.out.cell 1 rfl
  have s2:=HS7.out.cell 2 rfl
  have s3:=HS7.out.cell 3 rfl
  have sl:=HS7.out.lt
  have f0:=HF7.out.cell 0 rfl
  have fl:=HF7.out.lt
  go_region
  go_wp2_with fail
  go_meet
  exact ⟨rfl,Lib.hid (Below.drew (Below.one W7 _)),Lib.hid (BoxL.new rfl _ _:BoxL _ _ _ _)⟩
 case rest=>
  obtain ⟨rfl,HBC,HPB⟩:=hcut
  have hb8:Below W6.heap.size W6 wc:=HB7.out.trans (HBC.out.mono HB7.out.size)
  have HCK:=Lib.hid (HC2.out wc (.slice oc6 lc6 kc6) (.int .i64 o6) (.int .i64 n6) (.slice ov6 lv6 cv6) (.slice ot6 lt6 ct6) (HRP.out.shown (Shown.below hb8) hb8.size).unhide (HTR.out.shown (Shown.below hb8) hb8.size).unhide)
  have HB8:=Lib.hid hb8
  clear hb8 HB7 HS7 HF7
  have p0:=HPB.out.cell 0 rfl
  have p1:=HPB.out.cell 1 rfl
  have p2:=HPB.out.cell 2 rfl
  have p3:=HPB.out.cell 3 rfl
  have p4:=HPB.out.cell 4 rfl
  have pl:=HPB.out.lt
  go_wp2_with fail
  refine HCK.out.mono ?_
  rintro e W9 ⟨rfl,hb9⟩
  have HP9:=Lib.hid (HPB.out.keep hb9)
  have HB9:=Lib.hid (HB8.out.trans (hb9.mono HB8.out.size))
  have HR9:=Lib.hid (HR6.out.keep HB9.out)
  clear hb9 HCK HPB p0 p1 p2 p3 p4 pl HB8 HBC
  have p0:=HP9.out.cell 0 rfl
  have p1:=HP9.out.cell 1 rfl
  have p2:=HP9.out.cell 2 rfl
  have p3:=HP9.out.cell 3 rfl
  have p4:=HP9.out.cell 4 rfl
  have pl:=HP9.out.lt
  have r0:=HR9.out.cell 0 rfl
  have r1:=HR9.out.cell 1 rfl
  have r2:=HR9.out.cell 2 rfl
  have r3:=HR9.out.cell 3 rfl
  have r4:=HR9.out.cell 4 rfl
  have k0:=HR9.out.free 0
  have k1:=HR9.out.free 1
  have k2:=HR9.out.free 2
  have k3:=HR9.out.free 3
  have k4:=HR9.out.free 4
  have rl:=HR9.out.lt
  have HBF:=Lib.hid (set5_boxL HR9.out (.slice oc6 lc6 kc6) (.int .i64 o6) (.int .i64 n6) (.slice ov6 lv6 cv6) (.slice ot6 lt6 ct6))
  have q0:=HBF.out.cell 0 rfl
  have q1:=HBF.out.cell 1 rfl
  have q2:=HBF.out.cell 2 rfl
  have q3:=HBF.out.cell 3 rfl
  have q4:=HBF.out.cell 4 rfl
  have HBB:=Lib.hid ((HB6.out.trans (HB9.out.mono HB6.out.size)).trans (set5_below W9 (w.heap.size+1) w.heap.size (.slice oc6 lc6 kc6) (.int .i64 o6) (.int .i64 n6) (.slice ov6 lv6 cv6) (.slice ot6 lt6 ct6) (by omega)))
  have HSH:=Lib.hid (Shown.trans (Shown.trans (Shown.below (S:=SF (fun b=>S b∨b=w.heap.size+1) W4.heap.size) HB9.out) (Shown.turned (set5_turned W9 (S:=fun b=>b=w.heap.size+1) (b:=w.heap.size+1) rfl (.slice oc6 lc6 kc6) (.int .i64 o6) (.int .i64 n6) (.slice ov6 lv6 cv6) (.slice ot6 lt6 ct6)) fun b _ h=>.inl (.inr h))) (Shown.less _ (S':=S) fun b _ h=>.inl (.inl h)))
  have HSZ:=Lib.hid (show W6.heap.size≤(set5 W9 (w.heap.size+1) (.slice oc6 lc6 kc6) (.int .i64 o6) (.int .i64 n6) (.slice ov6 lv6 cv6) (.slice ot6 lt6 ct6)).heap.size from by rw[set5_size];exact HB9.out.size)
  go_wp2_with fail
  refine bodyPost_ret (v:=.tuple #[.agg #[.slice oc6 lc6 kc6,.int .i64 o6,.int .i64 n6,.slice ov6 lv6 cv6,.slice ot6 lt6 ct6],.int .i64 0]) (by simp[results,Tryz.results10,go_sem,q0,q1,q2,q3,q4]) rfl ⟨HBB.out,?_⟩
  rw[HP.out]
  exact ⟨_,_,_,_,_,_,_,_,_,_,_,rfl,HRP.out.shown HSH.out HSZ.out,HTR.out.shown HSH.out HSZ.out⟩
theorem fconvert_anyS (cs:List Dat) (x:Trm) (cc c0 c1 c2 c3:Value) (S:Nat→Prop) (w:World) (hcon:RepS (hide w S) w.heap.size cs cc) (hbody:TrmR (hide w S) w.heap.size x [c0,c1,c2,c3]) (hSS:∀b,S b→b<w.heap.size) (hE:Env w) (hs:x.all≤390) (hcl:Fd.okP cs x=true→cs.length≤90000) (hbk:Fd.okP cs x=true→∀d∈cs,Dat.bulk d≤1048576) :
  Calls Tryz.prog 10 #[.agg #[cc,c0,c1,c2,c3]] w (CvPostS S (Fd.conv cs x) w):=by
 unfold Fd.conv
 by_cases h:Fd.okP cs x=true
 ·rw[if_pos h]
  exact fconvert_some cs x cc c0 c1 c2 c3 S w hcon hbody hSS hE hs h (hcl h) (hbk h)
 ·rw[if_neg h]
  exact fconvert_none cs x cc c0 c1 c2 c3 w.heap.size w hcon.unhide hbody.unhide (Nat.le_refl _) hs (by simpa using h)
theorem fconvert_any (cs:List Dat) (x:Trm) (cc c0 c1 c2 c3:Value) (B:Nat) (w:World) (hcon:RepS w B cs cc) (hbody:TrmR w B x [c0,c1,c2,c3]) (hB:B≤w.heap.size) (hE:Env w) (hs:x.all≤390) (hcl:Fd.okP cs x=true→cs.length≤90000) (hbk:Fd.okP cs x=true→∀d∈cs,Dat.bulk d≤1048576) :
  Calls Tryz.prog 10 #[.agg #[cc,c0,c1,c2,c3]] w (CvPost (Fd.conv cs x) w):=
 (fconvert_anyS cs x cc c0 c1 c2 c3 (fun _=>False) w ((hcon.dug fun _ h=>h.elim).wider hB) (TrmR.wider hB _ _ (hbody.dug fun _ h=>h.elim)) (fun _ h=>h.elim) hE hs hcl hbk).mono fun _ _ h=>h.plain
end
section
open Go Go.RowKit
def BdPost (n:Nat) (w:World) (e:Ending) (w':World):Prop:=∃o' n' c' l',e=.returned (.slice o' n' c')∧SlC w' w'.heap.size 1 IntR l' (.slice o' n' c')∧l'.length≤n∧Below w.heap.size w w'
theorem bnd_take {t:List Trm} {j:Nat} {y:Trm} (h:t[j]?=some y):(Trm.bndL (t.take (j+1))).length=(Trm.bndL (t.take j)).length+y.bnd.length:=by
 have hb:∀a b:List Trm,Trm.bndL (a++b)=Trm.bndL a++Trm.bndL b:=fun a b=>by
  induction a with
  | nil=>rfl
  | cons x a ih=>rw[List.cons_append,Trm.bndL,Trm.bndL,ih,List.append_assoc]
 rw[List.take_add_one,h,hb]
 simp[Trm.bndL]
theorem bnd_le (t:List Trm) (j:Nat):(Trm.bndL (t.take j)).length≤(Trm.bndL t).length:=by
 have hb:∀a b:List Trm,Trm.bndL (a++b)=Trm.bndL a++Trm.bndL b:=fun a b=>by
  induction a with
  | nil=>rfl
  | cons x a ih=>rw[List.cons_append,Trm.bndL,Trm.bndL,ih,List.append_assoc]
 have:=congrArg (fun l=>(Trm.bndL l).length) (List.take_append_drop j t)
 rw[hb,List.length_append] at this
 omega
theorem rbinds_any (x:Trm):∀(c0 c1 c2 c3:Value) (deep:Int) (l:List Int) (o:Option Addr) (len cap:Nat) (B:Nat) (w:World),TrmR w B x [c0,c1,c2,c3]→SlC w w.heap.size 1 IntR l (.slice o len cap)→B≤w.heap.size→0≤deep→deep+x.all≤1000→l.length+x.bnd.length≤4000000 →
  Calls Tryz.prog 29 #[.agg #[c0,c1,c2,c3],.int .i64 deep,.slice o len cap] w (BdPost (l.length+x.bnd.length) w):=by
 induction x using Trm.ind with
 | _ op n v t ih=>
  intro c0 c1 c2 c3 deep l o len cap B w hv hl hB hd0 hd hm
  obtain ⟨vs,q,tl,tc,rfl,rfl,rfl,rfl,hs,hvv,hlen,hmx⟩:=trm_boxed hv
  obtain ⟨ov,lv,cv,rfl⟩:=hvv.form
  rw[Trm.all] at hd
  have hd1:deep≤1000:=by omega
  rw[Trm.bnd,List.length_append] at hm ⊢
  obtain ⟨W1,hW1⟩:∃W1,w.alloc (.cells #[.int .i64 op,.int .i64 n,.slice ov lv cv,.slice q tl tc] 26)=W1:=⟨_,rfl⟩
  have HB1:=Lib.hid (show Below w.heap.size w W1 from by rw[←hW1];exact Below.one w _)
  have HX1:=Lib.hid (show BoxL W1 w.heap.size 26 [.int .i64 op,.int .i64 n,.slice ov lv cv,.slice q tl tc] from by rw[←hW1];exact BoxL.new rfl _ _)
  have IH:=Lib.hid ih
  have HS:=Lib.hid hs
  have HV:=Lib.hid hvv
  have HTL:=Lib.hid hlen
  have HLV:=Lib.hid hvv.lens.1
  have HO:=Lib.hid ((hl.kept (HB1.out) fun _ _ _ h=>h).wider HB1.out.size)
  have HW:=Lib.hid hW1
  have HM:=Lib.hid hm
  have HDP:=Lib.hid hd
  have hlv:lv≤4000000:=by have:=HLV.out;omega
  have htl:tl≤1000:=by have:=HTL.out;have:=Trm.allL_length t;omega
  obtain ⟨L0,hL0⟩:∃L0,l.length=L0:=⟨_,rfl⟩
  have HL0:=Lib.hid hL0
  rw[hL0] at HM ⊢
  clear ih hv hs hvv hlen hW1 hl hm hd hL0
  go_enter Tryz.func29,Tryz.ntmps29
  go_upto_region 1 with fail
  rw[HW.out]
  clear HW
  go_wp2_with fail
  go_loopg [7,2] lv (fun g i out wr=>∃(j:Nat) (o':Option Addr) (n' c':Nat) (l':List Int),g=lv-j∧i=.int .i64 j∧j≤lv∧out=.slice o' n' c'∧Hid (SlC wr wr.heap.size 1 IntR l' (.slice o' n' c'))∧Hid (l'.length≤L0+j)∧Hid (Below W1.heap.size W1 wr))
  case atStart=>exact ⟨0,o,len,cap,l,rfl,rfl,by omega,rfl,HO,Lib.hid (by rw[HL0.out];exact Nat.le_refl _),Lib.hid (Below.refl _ _)⟩
  case round=>
   obtain ⟨j,o',n',c',l',rfl,rfl,hj,rfl,HLL,HLE,HBR⟩:=hrel
   have HXR:=Lib.hid (HX1.out.keep HBR.out)
   have HBW:=Lib.hid (HB1.out.trans (HBR.out.mono HB1.out.size))
   have b2:=HXR.out.cell 2 rfl
   have bl:=HXR.out.lt
   by_cases hjl:j<lv
   ·obtain ⟨z,hz⟩:∃z,v[j]?=some z:=⟨_,List.getElem?_eq_getElem (by rw[←HLV.out];exact hjl)⟩
    obtain ⟨b1,o1,e1,ho1,_,_,hc1,hi1,hzi⟩:=SlC.at HV.out (HBW.out.mono hB) hz
    subst ho1 hi1
    have e0:=hc1 0 _ rfl
    simp only[Nat.add_zero,Nat.mul_one] at e0
    have HCC:=Lib.hid (rput_any l' o' n' c' z wr.heap.size wr HLL.out (Nat.le_refl _) hzi (by have:=HLE.out;have:=HM.out;have:=HLV.out;omega))
    clear hc1 hz hzi
    go_wp2_with fail
    refine HCC.out.mono ?_
    rintro e w1 ⟨o2,n2,c2,l2,rfl,h1,h2,hb1⟩
    have HL2:=Lib.hid h1
    have HE2:=Lib.hid (show l2.length≤L0+(j+1) by have:=HLE.out;omega)
    have HBN:=Lib.hid (HBR.out.trans (hb1.mono HBR.out.size))
    clear h1 h2 hb1 HCC b2 bl e0
    go_wp2_with fail
    go_roundg (lv-(j+1))
    case measure=>omega
    case rel=>exact ⟨j+1,o2,n2,c2,l2,rfl,by go_num,by omega,rfl,HL2,HE2,HBN⟩
   ·obtain rfl:j=lv:=by omega
    have HLE3:=Lib.hid (show l'.length≤L0+v.length by have:=HLE.out;have:=HLV.out;omega)
    obtain ⟨W3,rfl⟩:∃W3,W3=wr:=⟨_,rfl⟩
    go_wp2_with fail
    clear b2 bl
    go_loopg [8,2] tl (fun g i out wx=>∃(k:Nat) (o':Option Addr) (n' c':Nat) (l':List Int),g=tl-k∧i=.int .i64 k∧k≤tl∧out=.slice o' n' c'∧Hid (SlC wx wx.heap.size 1 IntR l' (.slice o' n' c'))∧Hid (l'.length≤L0+(v.length+(Trm.bndL (t.take k)).length))∧Hid (Below W3.heap.size W3 wx))
    case atStart=>exact ⟨0,o',n',c',l',rfl,rfl,by omega,rfl,HLL,Lib.hid (by have:=HLE3.out;simp[Trm.bndL];omega),Lib.hid (Below.refl _ _)⟩
    case round=>
     obtain ⟨k,o5,n5,c5,l5,rfl,rfl,hk,rfl,HL5,HE5,HBS⟩:=hrel
     have HXS:=Lib.hid (HXR.out.keep HBS.out)
     have HBX:=Lib.hid (HBW.out.trans (HBS.out.mono HBW.out.size))
     have b3:=HXS.out.cell 3 rfl
     have bl:=HXS.out.lt
     by_cases hkl:k<tl
     ·obtain ⟨y,hy⟩:∃y,t[k]?=some y:=⟨_,List.getElem?_eq_getElem (by rw[←HTL.out];exact hkl)⟩
      obtain ⟨b1,o1,e1,ho1,_,hcl,hc1,hi1⟩:=SlC.at HS.out (HBX.out.mono hB) hy
      subst ho1
      obtain ⟨p1,q1,r1,p2,q2,r2,rfl,_⟩:=trmR_form hi1
      have a0:=hc1 0 _ rfl
      have a1:=hc1 1 _ rfl
      have a2:=hc1 2 _ rfl
      have a3:=hc1 3 _ rfl
      simp only[Nat.add_zero] at a0
      have hya:=Trm.allL_mem (List.mem_of_getElem? hy)
      have hyp:=y.all_pos
      have hdl:deep<1000:=by have:=HDP.out;omega
      have d1:decide (deep<1000)=true:=decide_eq_true hdl
      have hbt:=bnd_take hy
      have hbl:=bnd_le t (k+1)
      have HCC:=Lib.hid (IH.out y (List.mem_of_getElem? hy) _ _ _ _ (deep+1) l5 o5 n5 c5 B wr (TrmR.kept (HBX.out.mono hB) _ _ hi1) HL5.out (by have:=HBX.out.size;omega) (by omega) (by have:=HDP.out;omega) (by have:=HE5.out;have:=HM.out;omega))
      have HE6:=Lib.hid (show ∀m,m≤l5.length+y.bnd.length→m≤L0+(v.length+(Trm.bndL (t.take (k+1))).length) from fun m hm=>by have:=HE5.out;omega)
      clear hc1 hi1 hcl hy hya hyp hdl hbt hbl
      go_wp2_with fail
      refine HCC.out.mono ?_
      rintro e w1 ⟨o2,n2,c2,l2,rfl,h1,h2,hb1⟩
      have HL2:=Lib.hid h1
      have HE2:=Lib.hid (HE6.out _ h2)
      have HBN:=Lib.hid (HBS.out.trans (hb1.mono HBS.out.size))
      clear h1 h2 hb1 HCC b3 bl a0 a1 a2 a3
      go_wp2_with fail
      go_roundg (tl-(k+1))
      case measure=>omega
      case rel=>exact ⟨k+1,o2,n2,c2,l2,rfl,by go_num,by omega,rfl,HL2,HE2,HBN⟩
     ·obtain rfl:k=tl:=by omega
      have HE7:=Lib.hid (show l5.length≤L0+(v.length+(Trm.bndL t).length) by have:=HE5.out;rwa[List.take_of_length_le (by rw[←HTL.out];exact Nat.le_refl _)] at this)
      go_wp2_with fail
      go_ret
      exact ⟨_,_,_,_,rfl,HL5.out,HE7.out,HBX.out⟩
theorem rBinds_any (x:Trm) (c0 c1 c2 c3:Value) (B:Nat) (w:World) (hx:TrmR w B x [c0,c1,c2,c3]) (hB:B≤w.heap.size) (ha:x.all≤1000) (hb:x.bnd.length≤4000000) :
  Calls Tryz.prog 16 #[.agg #[c0,c1,c2,c3]] w (BdPost x.bnd.length w):=by
 have hb1:=Below.one w (.cells #[c0,c1,c2,c3] 26)
 have HCC:=Lib.hid (rbinds_any x c0 c1 c2 c3 0 [] none 0 0 B (w.alloc (.cells #[c0,c1,c2,c3] 26)) (TrmR.kept (hb1.mono hB) _ _ hx) ⟨none,0,0,rfl,rfl,by omega,by omega,rfl,rfl⟩ (Nat.le_trans hB hb1.size) (by omega) (by omega) (by simpa using hb))
 obtain ⟨ov,lv,cv,ot,lt,ct,he,_⟩:=trmR_form hx
 simp only[List.cons.injEq,and_true] at he
 obtain ⟨rfl,rfl,rfl,rfl⟩:=he
 have HB1:=Lib.hid hb1
 clear hx hb1
 go_enter Tryz.func16,Tryz.ntmps16
 go_wp2_with fail
 refine HCC.out.mono ?_
 rintro e w1 ⟨o2,n2,c2,l2,rfl,h1,h2,hb2⟩
 have HL2:=Lib.hid h1
 have HE2:=Lib.hid h2
 have HB2:=Lib.hid (HB1.out.trans (hb2.mono HB1.out.size))
 clear h1 h2 hb2
 go_wp2_with fail
 go_ret
 exact ⟨_,_,_,_,rfl,HL2.out,by simpa using HE2.out,HB2.out⟩
end
end Go.Proofs.YtgbibibmpoekiaaGreatDoor
