/-
  What the proofs lean on: FwR, DelT, CkM.
-/
import Derived.Lib.SliceRun
import Derived.Test.YtgbibibmpoekiaaGreatDoorShfA22
import Derived.Test.YtgbibibmpoekiaaGreatDoorShfA28
set_option maxRecDepth 100000
set_option maxHeartbeats 16000000
namespace Go.Proofs.YtgbibibmpoekiaaGreatDoor
section
open Go Go.RowKit
theorem put_hit {b:List (Int × Trm)} {n:Int} {v:List Int} {t:List Trm} {y:Trm} (h:b.lookup n=some y):Fd.put b (.mk 1 n v t)=y:=by
 rw[Fd.put,if_pos rfl,h]
theorem put_miss {b:List (Int × Trm)} {o n:Int} {v:List Int} {t:List Trm} (h:¬(o=1∧(b.lookup n).isSome=true)):Fd.put b (.mk o n v t)=.mk o n v (Fd.putL b t):=by
 rw[Fd.put]
 by_cases ho:o=1
 ·rw[if_pos ho]
  cases hl:b.lookup n with
  | none=>rfl
  | some y=>exact absurd ⟨ho,by rw[hl];rfl⟩ h
 ·rw[if_neg ho]
theorem putL_snoc {b:List (Int × Trm)}:∀{l:List Trm} {j:Nat} {x:Trm},l[j]?=some x→Fd.putL b (l.take (j+1))=Fd.putL b (l.take j)++[Fd.put b x]
 | [],j,x,h=>by simp at h
 | y::l,0,x,h=>by
  obtain rfl:y=x:=by simpa using h
  simp[Fd.putL]
 | y::l,j+1,x,h=>by
  have:=putL_snoc (b:=b) (l:=l) (j:=j) (x:=x) (by simpa using h)
  simp only[List.take_succ_cons,Fd.putL]
  rw[this];rfl
theorem putL_len' (b:List (Int × Trm)):∀l:List Trm,(Fd.putL b l).length=l.length
 | []=>rfl
 | x::l=>by rw[Fd.putL,List.length_cons,List.length_cons,putL_len' b l]
def S4 (S:Nat→Prop) (a:Nat) (b:Nat):Prop:=S b∨(a≤b∧b<a+4)
structure RpI (w:World) (S:Nat→Prop) (o n:Int) (vsl tsl:Value) (l:List Trm) (wr:World):Prop where
 rb:BoxL wr (w.heap.size+1) 26 [.int .i64 0,.int .i64 0,.slice none 0 0,.slice none 0 0]
 tb:BoxL wr (w.heap.size+3) 26 [.int .i64 o,.int .i64 n,vsl,tsl]
 row:GrownT 26 wr (S4 S w.heap.size) (w.heap.size+4) l tsl
 below:Below w.heap.size w wr
def RpR (S' S0:Nat→Prop) (base:Nat) (pv row xv mv:Value) (l:List Trm) (y:Trm) (i:Nat) (v:Value) (W:World):Prop:=match i with
 | 0=>v=pv
 | 1=>v=row
 | 2=>v=xv
 | 3=>v=mv
 | 4=>TmV S' y v W
 | 5=>TrmS (hide W S') W.heap.size [y] v
 | 6=>∃o l' c,v=.slice o l' c∧GrownT 26 W S0 base (l++[y]) v
 | _=>True
theorem rpR_kept {S' S0:Nat→Prop} {base:Nat} {pv row xv mv:Value} {l:List Trm} {y:Trm} {T:Nat→Prop} (hT:∀b,T b→S' b):∀i v A B,i≠6→RpR S' S0 base pv row xv mv l y i v A→Turned T A B→RpR S' S0 base pv row xv mv l y i v B:=fun i v A B hi h ht=>by
 match i,hi with
 | 0,_=>exact h
 | 1,_=>exact h
 | 2,_=>exact h
 | 3,_=>exact h
 | 4,_=>exact TmV.shown h (Shown.turned ht fun b _ hb=>hT b hb) ht.size
 | 5,_=>exact TrmS.shown h (Shown.turned ht fun b _ hb=>hT b hb) ht.size
 | 6,hi=>exact absurd rfl hi
 | i+7,_=>trivial
theorem freplaced_any {mb nn:Nat} {f:Int→Option Value} {b:List (Int × Trm)}:∀(x:Trm) (S:Nat→Prop) (c0 c1 c2 c3:Value) (w:World),TrmR (hide w S) w.heap.size x [c0,c1,c2,c3]→(∀b,S b→b<w.heap.size)→ByR w S mb nn f b→x.all≤100000 →
  Calls Tryz.prog 75 #[.agg #[c0,c1,c2,c3],.map (some mb)] w (TmPost S (Fd.put b x) w):=by
 intro x
 induction x using Trm.ind with
 | _ o n v t ih=>
 intro S c0 c1 c2 c3 w hx hS hby hall
 obtain ⟨vs,ts,he,ho,hn,hv,ht⟩:=trmR_iff.1 hx
 simp only[List.cons.injEq,and_true] at he
 obtain ⟨rfl,rfl,rfl,rfl⟩:=he
 obtain ⟨ov,lv,cv,rfl⟩:=hv.form
 obtain ⟨ot,lt,ct,rfl⟩:=SlC.form ht
 obtain ⟨zv,hz⟩:∃zv,(f n).getD zeroTV=zv:=⟨_,rfl⟩
 have hzf:∃(o n:Int) (ov ot:Option Addr) (lv cv lt ct:Nat),zv=.agg #[.int .i64 o,.int .i64 n,.slice ov lv cv,.slice ot lt ct]:=by
  rw[←hz]
  cases hl:b.lookup n with
  | none=>rw[hby.none n hl];exact ⟨_,_,_,_,_,_,_,_,rfl⟩
  | some y=>
   obtain ⟨u,hu,q,m,ov,ot,lv,cv,lt,ct,rfl,_⟩:=hby.some n y hl
   rw[hu];exact ⟨_,_,_,_,_,_,_,_,rfl⟩
 obtain ⟨z0,z1,zov,zot,zlv,zcv,zlt,zct,rfl⟩:=hzf
 obtain ⟨q,hq⟩:∃q,(f n).isSome=q:=⟨_,rfl⟩
 have hqb:(b.lookup n).isSome=q:=by
  rw[←hq]
  cases hl:b.lookup n with
  | none=>rw[hby.none n hl];rfl
  | some y=>obtain ⟨u,hu,_⟩:=hby.some n y hl;rw[hu];rfl
 obtain ⟨W2,hW2⟩:∃W2,(w.alloc (.cells #[.int .i64 o,.int .i64 n,.slice ov lv cv,.slice ot lt ct] 26)).alloc (.cells #[.int .i64 0,.int .i64 0,.slice none 0 0,.slice none 0 0] 26)=W2:=⟨_,rfl⟩
 have hb2:Below w.heap.size w W2:=by rw[←hW2];exact (Below.one w _).trans ((Below.one _ _).mono (by simp))
 have HX2:=Lib.hid (show BoxL W2 w.heap.size 26 [.int .i64 o,.int .i64 n,.slice ov lv cv,.slice ot lt ct] from by rw[←hW2];exact (BoxL.new rfl _ _).alloc _)
 have HR2:=Lib.hid (show BoxL W2 (w.heap.size+1) 26 [.int .i64 0,.int .i64 0,.slice none 0 0,.slice none 0 0] from by rw[←hW2];exact BoxL.new (by simp) _ _)
 have HM2:=Lib.hid (hby.map.keep hb2)
 have HBY:=Lib.hid hby
 have HZ:=Lib.hid hz
 have HQ:=Lib.hid hq
 have HQB:=Lib.hid hqb
 have HW2:=Lib.hid hW2
 have HB2:=Lib.hid hb2
 have hs2:W2.heap.size=w.heap.size+2:=by rw[←hW2];simp
 have HS2:=Lib.hid hs2
 have HV:=Lib.hid hv
 have HTT:=Lib.hid ht
 have IH:=Lib.hid ih
 have HS:=Lib.hid hS
 have HALL:=Lib.hid hall
 have HO:=Lib.hid ho
 have HN:=Lib.hid (show I64 n from hn)
 have HX:=Lib.hid hx
 clear hx hS hby hz hq hqb hW2 hb2 hs2 hv ht ih hall ho hn
 go_enter Tryz.func75,Tryz.ntmps75
 go_upto_region 1 with fail
 rw[HW2.out]
 have x0:=HX2.out.cell 0 rfl
 have x1:=HX2.out.cell 1 rfl
 have x2:=HX2.out.cell 2 rfl
 have x3:=HX2.out.cell 3 rfl
 have xl:=HX2.out.lt
 go_upto_region 2 with (first | (at_lookup;refine wpList_lookVT rfl (.tmp 11) (.tmp 13) rfl mb nn f rfl HM2.out n rfl HN.out ?_;rw[HZ.out,HQ.out]) | fail)
 obtain ⟨W3,hW3⟩:∃W3,W2.alloc (.cells #[.int .i64 z0,.int .i64 z1,.slice zov zlv zcv,.slice zot zlt zct] 26)=W3:=⟨_,rfl⟩
 have hb3:Below W2.heap.size W2 W3:=by rw[←hW3];exact Below.one _ _
 have HX3:=Lib.hid (HX2.out.keep hb3)
 have HR3:=Lib.hid (HR2.out.keep hb3)
 have HZ3:=Lib.hid (show BoxL W3 W2.heap.size 26 [.int .i64 z0,.int .i64 z1,.slice zov zlv zcv,.slice zot zlt zct] from by rw[←hW3];exact BoxL.new rfl _ _)
 have HB3:=Lib.hid (HB2.out.trans (hb3.mono HB2.out.size))
 have hs3:W3.heap.size=w.heap.size+3:=by rw[←hW3,World.size_alloc,HS2.out]
 have HS3:=Lib.hid hs3
 rw[hW3]
 clear hb3 hs3 hW3 x0 x1 x2 x3 xl HX2 HR2 HM2 HW2
 have x0:=HX3.out.cell 0 rfl
 have xl:=HX3.out.lt
 by_cases hh:o=1∧q=true
 ·obtain ⟨rfl,rfl⟩:=hh
  have e0:=HZ3.out.cell 0 rfl
  have e1:=HZ3.out.cell 1 rfl
  have e2:=HZ3.out.cell 2 rfl
  have e3:=HZ3.out.cell 3 rfl
  have el:=HZ3.out.lt
  have r0:=HR3.out.cell 0 rfl
  have r1:=HR3.out.cell 1 rfl
  have r2:=HR3.out.cell 2 rfl
  have r3:=HR3.out.cell 3 rfl
  have k0:=HR3.out.free 0
  have k1:=HR3.out.free 1
  have k2:=HR3.out.free 2
  have k3:=HR3.out.free 3
  have rl:=HR3.out.lt
  have HBF:=Lib.hid (set4_box HR3.out (.int .i64 z0) (.int .i64 z1) (.slice zov zlv zcv) (.slice zot zlt zct))
  have q0:=HBF.out.cell 0 rfl
  have q1:=HBF.out.cell 1 rfl
  have q2:=HBF.out.cell 2 rfl
  have q3:=HBF.out.cell 3 rfl
  have HBB:=Lib.hid (set4_below W3 (b:=w.heap.size+1) (n:=w.heap.size) (by omega) (.int .i64 z0) (.int .i64 z1) (.slice zov zlv zcv) (.slice zot zlt zct))
  go_wp2_with fail
  refine bodyPost_ret (v:=.agg #[.int .i64 z0,.int .i64 z1,.slice zov zlv zcv,.slice zot zlt zct]) (by simp[results,Tryz.f75,go_sem,q0,q1,q2,q3]) rfl ?_
  obtain ⟨y,hy⟩:=Option.isSome_iff_exists.1 HQB.out
  rw[put_hit hy]
  obtain ⟨u,hu,hr⟩:=HBY.out.some n y hy
  have huz:u=.agg #[.int .i64 z0,.int .i64 z1,.slice zov zlv zcv,.slice zot zlt zct]:=by have:=HZ.out;rw[hu] at this;exact this
  subst huz
  obtain ⟨_,_,_,_,_,_,_,_,he,hr⟩:=hr.shown (shown_more (HB3.out.trans HBB.out) fun b h=>.inl h) (HB3.out.trans HBB.out).size
  simp only[Value.agg.injEq,Array.mk.injEq,List.cons.injEq,Value.int.injEq,Value.slice.injEq,true_and,and_true] at he
  obtain ⟨rfl,rfl,⟨rfl,rfl,rfl⟩,rfl,rfl,rfl⟩:=he
  exact ⟨_,_,_,_,_,_,_,_,rfl,hr,HB3.out.trans HBB.out⟩
 ·go_cut [22] (fun c wx=>c=.bool false∧W3=wx)
  case first=>as_aux_lemma=>
   cases q with
   | false=>
    go_wp2_with fail
    go_meet
    exact ⟨rfl,rfl⟩
   | true=>
    have f1:(o==1)=false:=by simp;intro e;exact hh ⟨e,rfl⟩
    go_wp2_with fail
    go_meet
    exact ⟨rfl,rfl⟩
  case rest=>
   obtain ⟨rfl,rfl⟩:=hcut
   have x1:=HX3.out.cell 1 rfl
   have x2:=HX3.out.cell 2 rfl
   go_upto_region 5 with fail
   obtain ⟨W4,hW4⟩:∃W4,W3.alloc (.cells #[.int .i64 o,.int .i64 n,.slice ov lv cv,.slice none 0 0] 26)=W4:=⟨_,rfl⟩
   rw[hW4]
   have hb4:Below W3.heap.size W3 W4:=by rw[←hW4];exact Below.one _ _
   have hs4:W4.heap.size=w.heap.size+4:=by rw[←hW4,World.size_alloc,HS3.out]
   have HX4:=Lib.hid (HX3.out.keep hb4)
   have HI4:=Lib.hid (show RpI w S o n (.slice ov lv cv) (.slice none 0 0) [] W4 from ⟨HR3.out.keep hb4,by rw[←hW4];exact BoxL.new HS3.out.symm _ _,GrownT.nil W4 (fun b hb=>by rw[hs4];rcases hb with hb | hb;(have:=HS.out b hb;omega);omega) (by omega),HB3.out.trans (hb4.mono HB3.out.size)⟩)
   have HPUT:=Lib.hid (put_miss (b:=b) (o:=o) (n:=n) (v:=v) (t:=t) (fun h=>hh ⟨h.1,HQB.out.symm.trans h.2⟩))
   have HLT:=Lib.hid (SlC.lens HTT.out).1
   have hlt:lt≤100000:=by have:=Trm.allL_length t;have:=HALL.out;rw[Trm.all] at this;have:=HLT.out;omega
   clear hb4 hs4 hW4 x0 x1 x2 xl HX3 HR3 HZ3 HB3 hh
   have x3:=HX4.out.cell 3 rfl
   have xl:=HX4.out.lt
   rw[HS3.out]
   go_wp2_with fail
   clear x3 xl
   go_loopg [34] lt (fun g i wr=>∃(j:Nat) (tsl:Value),g=lt-j∧j≤lt∧i=.int .i64 j∧Hid (RpI w S o n (.slice ov lv cv) tsl (Fd.putL b (t.take j)) wr))
   case atStart=>exact ⟨0,.slice none 0 0,rfl,by omega,rfl,by simpa[Fd.putL] using HI4⟩
   case round=>
    obtain ⟨j,tsl,rfl,hj,rfl,HI⟩:=hrel
    by_cases hjl:j<lt
    ·obtain ⟨y,hy⟩:∃y,t[j]?=some y:=⟨_,List.getElem?_eq_getElem (by rw[←HLT.out];exact hjl)⟩
     have hsh:Shown w S wr (SR (S4 S w.heap.size) tsl):=shown_more HI.out.below fun b hb=>by
      rcases hb with (hb | hb) | hb
      ·exact .inl hb
      ·exact .inr hb.1
      ·have:=(HI.out.row.block hb).1;exact .inr (by omega)
     obtain ⟨eb,eo,es,he,_,hcl,hcell,hir⟩:=SlC.at (TrmS.shown HTT.out hsh HI.out.below.size) (Below.refl _ _) hy
     subst he
     obtain ⟨oy,ny,ky,oz,nz,kz,rfl,_,_,_,_⟩:=trmR_form hir
     have e0:=(hide_some (hcell 0 _ rfl)).2
     have e1:=(hide_some (hcell 1 _ rfl)).2
     have e2:=(hide_some (hcell 2 _ rfl)).2
     have e3:=(hide_some (hcell 3 _ rfl)).2
     simp only[Nat.add_zero] at e0
     have HY:=Lib.hid hir
     have HMEM:=Lib.hid (List.mem_of_getElem? hy)
     have HPS:=Lib.hid (putL_snoc (b:=b) hy)
     have HYA:=Lib.hid (show y.all≤100000 by have:=Trm.allL_mem HMEM.out;have:=HALL.out;rw[Trm.all] at this;omega)
     have HTR:=Lib.hid (fun g (hg:tsl.ownBlock=some g)=>(HI.out.row.block hg).2)
     clear hir hcell hy hsh hcl
     go_upto_region 8 with fail
     obtain ⟨W5,hW5⟩:∃W5,wr.alloc (.cells #[.int .i64 y.op,.int .i64 y.n,.slice oy ny ky,.slice oz nz kz] 26)=W5:=⟨_,rfl⟩
     have hb5:Below wr.heap.size wr W5:=by rw[←hW5];exact Below.one _ _
     have HE5:=Lib.hid (show BoxL W5 wr.heap.size 26 [.int .i64 y.op,.int .i64 y.n,.slice oy ny ky,.slice oz nz kz] from by rw[←hW5];exact BoxL.new rfl _ _)
     have HI5:=Lib.hid (show RpI w S o n (.slice ov lv cv) tsl (Fd.putL b (t.take j)) W5 from ⟨HI.out.rb.keep hb5,HI.out.tb.keep hb5,HI.out.row.below hb5,HI.out.below.trans (hb5.mono HI.out.below.size)⟩)
     have HY5:=Lib.hid (HY.out.shown (Shown.below hb5) hb5.size)
     rw[hW5]
     have hz5:wr.heap.size<W5.heap.size:=HE5.out.lt
     clear hb5 hW5 e0 e1 e2 e3 HI HY
     have HD5:=Lib.hid ((Below.refl W5.heap.size W5).drew)
     obtain ⟨ot5,lt5,ct5,rfl,_,htl⟩:=HI5.out.row.form
     have HTB:=Lib.hid (fun g (hg:(Value.slice ot5 lt5 ct5).ownBlock=some g)=>HI5.out.row.block hg)
     have HLL:=Lib.hid htl
     clear htl
     have hS0:∀b,SR (S4 S w.heap.size) (.slice ot5 lt5 ct5) b→b<W5.heap.size:=svT_lt HI5.out.row (Nat.le_refl _)
     refine wp_region_appF 7 6 (RpR (SR (S4 S w.heap.size) (.slice ot5 lt5 ct5)) (S4 S w.heap.size) (w.heap.size+4) (.pointer (some ⟨w.heap.size+3,3,none⟩)) (.slice ot5 lt5 ct5) (.agg #[.int .i64 y.op,.int .i64 y.n,.slice oy ny ky,.slice oz nz kz]) (.map (some mb)) (Fd.putL b (t.take j)) (Fd.put b y)) (fun b=>(Value.slice ot5 lt5 ct5).ownBlock=some b) (by kernel_rfl) (by kernel_rfl) (fun i v A B hi h _ ht=>rpR_kept (fun b hb=>.inr hb) i v A B hi h ht) (fun v A B h _ hb=>by
      obtain ⟨q,l',c,h1,h2⟩:=h
      exact ⟨q,l',c,h1,h2.below hb⟩) ?hops ?hp ?hend
     case hops=>
      intro i q8 hi hip ho a w1 hex hdep hrest
      have ht:Turned (fun b=>(Value.slice ot5 lt5 ct5).ownBlock=some b) W5 w1:=(Turned.of_below HD5.out).next hex
      match i,hi with
      | 0,_=>
       cases ho
       have h7:a.tmps.getD 7 undef=.pointer (some ⟨w.heap.size+3,0,none⟩):=hrest.at 7 (by kernel_rfl)
       exact wp_valF (v:=.pointer (some ⟨w.heap.size+3,3,none⟩)) (w':=w1) (by go_simp) ⟨_,rfl,rfl,Below.refl _ _⟩
      | 1,_=>
       cases ho
       have h38:a.tmps.getD 38 undef=.pointer (some ⟨w.heap.size+3,3,none⟩):=hdep.at 0 38 (by kernel_rfl)
       have hbx:=ht.box HI5.out.tb (fun e=>by have:=(HTB.out _ e).1;omega)
       have c3:=hbx.cell 3 rfl
       have cl:=hbx.lt
       exact wp_valF (v:=.slice ot5 lt5 ct5) (w':=w1) (by go_simp) ⟨_,rfl,rfl,Below.refl _ _⟩
      | 2,_=>
       cases ho
       have h9:a.tmps.getD 9 undef=.pointer (some ⟨wr.heap.size,0,none⟩):=hrest.at 9 (by kernel_rfl)
       have hbx:BoxL w1 wr.heap.size 26 [.int .i64 y.op,.int .i64 y.n,.slice oy ny ky,.slice oz nz kz]:=ht.box HE5.out (fun e=>by have:=HTR.out _ e;omega)
       have c0:=hbx.cell 0 rfl
       have c1:=hbx.cell 1 rfl
       have c2:=hbx.cell 2 rfl
       have c3:=hbx.cell 3 rfl
       have cl:=hbx.lt
       exact wp_valF (v:=.agg #[.int .i64 y.op,.int .i64 y.n,.slice oy ny ky,.slice oz nz kz]) (w':=w1) (by go_simp) ⟨_,rfl,rfl,Below.refl _ _⟩
      | 3,_=>
       cases ho
       exact wp_moveF rfl ⟨_,rfl,hrest.at 1 (by kernel_rfl),Below.refl _ _⟩
      | 4,_=>
       cases ho
       have h40:a.tmps.getD 40 undef=.agg #[.int .i64 y.op,.int .i64 y.n,.slice oy ny ky,.slice oz nz kz]:=hdep.at 2 40 (by kernel_rfl)
       have h41:a.tmps.getD 41 undef=.map (some mb):=hdep.at 3 41 (by kernel_rfl)
       refine wp_callF (vals:=#[.agg #[.int .i64 y.op,.int .i64 y.n,.slice oy ny ky,.slice oz nz kz],.map (some mb)]) rfl (by simp only[List.map_toArray,List.map_cons,List.map_nil];rw[←h40,←h41];rfl) (fun _ _=>rfl) (IH.out y HMEM.out (SR (S4 S w.heap.size) (.slice ot5 lt5 ct5)) _ _ _ _ w1 (HY5.out.shown (Shown.turned ht fun b _ hb=>.inr hb) ht.size) (fun b hb=>Nat.lt_of_lt_of_le (hS0 b hb) ht.size) (HBY.out.turnS (HI5.out.below.trans (ht.below (fun b hb=>by have:=(HTB.out _ hb).1;omega) HI5.out.below.size)) fun b hb=>by
        rcases hb with (hb | hb) | hb
        ·exact .inl hb
        ·exact .inr hb.1
        ·exact .inr (by have:=(HTB.out _ hb).1;omega)) HYA.out) ?_
       intro e w' h
       obtain ⟨v,rfl,h1,h2⟩:=h.val
       exact ⟨v,rfl,v,rfl,h1,h2⟩
      | 5,_=>
       cases ho
       exact wp_bsT rfl (hdep.at 4 42 (by kernel_rfl)) (fun b hb=>Nat.lt_of_lt_of_le (hS0 b hb) ht.size) fun v w' h1 h2=>⟨v,rfl,h1,h2⟩
      | 6,_=>exact absurd rfl hip
      | i+7,hi=>exact absurd hi (by omega)
     case hp=>
      intro q8 _ ho a w1 hex hdep hrest
      cases ho
      refine wp_growT (.tmp 39) (.tmp 43) rfl (w.heap.size+4) _ _ (Fd.putL b (t.take j)) [Fd.put b y] (hdep.at 1 39 (by kernel_rfl)) (Lib.hid (HI5.out.row.below (Below.next HD5.out hex))) rfl (Lib.hid (hdep.at 5 43 (by kernel_rfl))) (by rw[putL_len',List.length_take];simp;omega) ?_
      intro o' len' cap' w' h1 _ h2 _
      exact ⟨_,rfl,⟨_,_,_,rfl,h1.out⟩,h2.out⟩
     case hend=>
      intro a w1 hdf hsz hex hval hrest
      obtain ⟨o9,l9,c9,h44,hrow⟩:=hval 6 _ 44 (by omega) rfl rfl
      rw[h44] at hrow
      obtain ⟨f9,ha,hf⟩:=act_spellF [false,false,false,false,false,false,false,false,false,false,false,false,false,false,false,false,false,false,false,false,false,false,false,false,false,false,false,false,false,false,false,false,false,false,false,false,false,false,true,true,true,true,true,true,true,false,false,false] (by kernel_rfl) hdf hsz hrest
      rw[←hf] at h44
      subst ha
      have ht:Turned (fun b=>(Value.slice ot5 lt5 ct5).ownBlock=some b) W5 w1:=(Turned.of_below HD5.out).next hex
      have htb:=ht.box HI5.out.tb (fun e=>by have:=(HTB.out _ e).1;omega)
      have hrb:=ht.box HI5.out.rb (fun e=>by have:=(HTB.out _ e).1;omega)
      have hbl:=HI5.out.below.trans (ht.below (fun b hb=>by have:=(HTB.out _ hb).1;omega) HI5.out.below.size)
      have c3:=htb.cell 3 rfl
      have cz:=htb.free 3
      have cl:=htb.lt
      have HI9:=Lib.hid (show RpI w S o n (.slice ov lv cv) (.slice o9 l9 c9) (Fd.putL b (t.take (j+1))) (w1.setCell ⟨w.heap.size+3,3,none⟩ (.slice o9 l9 c9)) from
       ⟨hrb.other _ _ (by show w.heap.size+1≠w.heap.size+3;omega),htb.set 3 _,by rw[HPS.out];exact hrow.turned (Turned.set (S:=fun b=>b=w.heap.size+3) w1 ⟨w.heap.size+3,3,none⟩ (.slice o9 l9 c9) rfl) (fun b _ hb=>.inr (by subst hb;omega)),hbl.setCell (p:=⟨w.heap.size+3,3,none⟩) (by dsimp only;omega) _⟩)
      clear hval hrest hf hex hdf hsz htb hrb hbl hrow ht
      simp only[spellF,h44,List.drop_succ_cons,List.drop_zero]
      go_wp2_with fail
      go_roundg (lt-(j+1))
      case measure=>omega
      case rel=>exact ⟨j+1,.slice o9 l9 c9,rfl,by omega,by go_num,HI9⟩
    ·obtain rfl:lt=j:=by omega
     have e0:=HI.out.tb.cell 0 rfl
     have e1:=HI.out.tb.cell 1 rfl
     have e2:=HI.out.tb.cell 2 rfl
     have e3:=HI.out.tb.cell 3 rfl
     have el:=HI.out.tb.lt
     have r0:=HI.out.rb.cell 0 rfl
     have r1:=HI.out.rb.cell 1 rfl
     have r2:=HI.out.rb.cell 2 rfl
     have r3:=HI.out.rb.cell 3 rfl
     have k0:=HI.out.rb.free 0
     have k1:=HI.out.rb.free 1
     have k2:=HI.out.rb.free 2
     have k3:=HI.out.rb.free 3
     have rl:=HI.out.rb.lt
     obtain ⟨ot5,lt5,ct5,rfl,hd1,hd2⟩:=HI.out.row.form
     clear hd1 hd2
     have HBF:=Lib.hid (set4_box HI.out.rb (.int .i64 o) (.int .i64 n) (.slice ov lv cv) (.slice ot5 lt5 ct5))
     have q0:=HBF.out.cell 0 rfl
     have q1:=HBF.out.cell 1 rfl
     have q2:=HBF.out.cell 2 rfl
     have q3:=HBF.out.cell 3 rfl
     have HBB:=Lib.hid (set4_below wr (b:=w.heap.size+1) (n:=w.heap.size) (by omega) (.int .i64 o) (.int .i64 n) (.slice ov lv cv) (.slice ot5 lt5 ct5))
     go_wp2_with fail
     refine bodyPost_ret (v:=.agg #[.int .i64 o,.int .i64 n,.slice ov lv cv,.slice ot5 lt5 ct5]) (by simp[results,Tryz.f75,go_sem,q0,q1,q2,q3]) rfl ?_
     refine ⟨_,_,_,_,_,_,_,_,rfl,?_,HI.out.below.trans HBB.out⟩
     have hb:=HI.out.below.trans HBB.out
     have htt:t.take lt=t:=List.take_of_length_le (by rw[←HLT.out];exact Nat.le_refl _)
     have hrow:=HI.out.row
     rw[htt] at hrow
     rw[HPUT.out]
     refine trmR_iff.2 ⟨_,_,rfl,HO.out,HN.out,ints_shown HV.out (shown_more hb fun b h=>.inl h) hb.size,?_⟩
     exact TrmS.shown hrow.rep (Shown.trans (Shown.turned (set4_turned wr (S:=fun b=>b=w.heap.size+1) rfl (.int .i64 o) (.int .i64 n) (.slice ov lv cv) (.slice ot5 lt5 ct5)) fun b _ hb=>.inr (by subst hb;omega)) (Shown.less _ fun b _ h=>.inl h)) (by rw[set4_size];exact Nat.le_refl _)
end
section
open Go Go.RowKit
theorem cellsG_split {α:Type} {size:Nat} {R:α→List Value→Prop}:∀{l k:List α} {xs:List Value},CellsG size R (l++k) xs→∃a b,xs=a++b∧CellsG size R l a∧CellsG size R k b
 | [],k,xs,h=>⟨[],xs,rfl,rfl,h⟩
 | x::l,k,xs,⟨cs,r,he,hs,hx,hr⟩=>by
  obtain ⟨a,b,h1,h2,h3⟩:=cellsG_split hr
  exact ⟨cs++a,b,by rw[he,h1,List.append_assoc],⟨cs,a,rfl,hs,hx,h2⟩,h3⟩
theorem own_box {W:World} {base g m cap size:Nat} {e:TypeId} {xs:List Value} (h:W.ownsRow base e size (.slice (some ⟨g,0,none⟩) m cap) m xs):∃L:List Value,BoxL W g e L∧base≤g∧m≤cap∧cap≤maxLen∧L.length=cap*size∧L.take (m*size)=xs∧xs.length=m*size:=by
 obtain ⟨hl,h | ⟨g',cap',cur,hv,h1,h2,h3,h4,h5,h6⟩⟩:=h
 ·simp at h
 ·simp only[Value.slice.injEq,Option.some.injEq,Addr.mk.injEq,and_true,true_and] at hv
  obtain ⟨rfl,rfl⟩:=hv
  exact ⟨cur.toList,by simpa[BoxL] using h2,h1,h3,h4,by simpa using h5,h6,hl⟩
theorem own_of_box {W:World} {base g m cap size:Nat} {e:TypeId} {xs L:List Value} (h:BoxL W g e L) (hb:base≤g) (hm:m≤cap) (hc:cap≤maxLen) (hL:L.length=cap*size) (ht:L.take (m*size)=xs) (hx:xs.length=m*size):W.ownsRow base e size (.slice (some ⟨g,0,none⟩) m cap) m xs:=
 ⟨hx,.inr ⟨g,cap,L.toArray,rfl,hb,h,hm,hc,by simpa using hL,by simpa using ht⟩⟩
theorem grownT_len {W:World} {S:Nat→Prop} {base m cap:Nat} {o:Option Addr} {A:List Trm} (h:GrownT 26 W S base A (.slice o m cap)):m=A.length:=by
 obtain ⟨_,_,_,h1,_,h2⟩:=h.form
 simp only[Value.slice.injEq] at h1
 obtain ⟨rfl,rfl,rfl⟩:=h1
 exact h2
theorem grownT_set {W:World} {S:Nat→Prop} {base g m cap k:Nat} {A C:List Trm} {x y:Trm} {c0 c1 c2 c3:Value} (h:GrownT 26 W S base (A++x::C) (.slice (some ⟨g,0,none⟩) m cap)) (hk:A.length=k) (hy:TrmR (hide W (SR S (.slice (some ⟨g,0,none⟩) m cap))) W.heap.size y [c0,c1,c2,c3]) :
  GrownT 26 ((((W.setCell ⟨g,k*4,none⟩ c0).setCell ⟨g,k*4+1,none⟩ c1).setCell ⟨g,k*4+2,none⟩ c2).setCell ⟨g,k*4+3,none⟩ c3) S base (A++y::C) (.slice (some ⟨g,0,none⟩) m cap):=by
 have e1:=grownT_len h
 obtain ⟨h0,hap,hb,xs,h1,h2⟩:=h
 rw[←e1] at h1
 obtain ⟨L,hL,g1,g2,g3,g4,g5,g6⟩:=own_box h1
 obtain ⟨a,b,rfl,k1,cs,r,rfl,k2,k3,k4⟩:=cellsG_split h2
 have ha:a.length=k*4:=by rw[k1.length,hk]
 match cs,k2 with
 | [d0,d1,d2,d3],_=>
 have hT:Turned (fun b=>b=g) W ((((W.setCell ⟨g,k*4,none⟩ c0).setCell ⟨g,k*4+1,none⟩ c1).setCell ⟨g,k*4+2,none⟩ c2).setCell ⟨g,k*4+3,none⟩ c3):=(((Turned.set (S:=fun b=>b=g) W ⟨g,k*4,none⟩ c0 rfl).next (Turned.set _ ⟨g,k*4+1,none⟩ c1 rfl)).next (Turned.set _ ⟨g,k*4+2,none⟩ c2 rfl)).next (Turned.set _ ⟨g,k*4+3,none⟩ c3 rfl)
 have hsz:((((W.setCell ⟨g,k*4,none⟩ c0).setCell ⟨g,k*4+1,none⟩ c1).setCell ⟨g,k*4+2,none⟩ c2).setCell ⟨g,k*4+3,none⟩ c3).heap.size=W.heap.size:=by simp only[World.size_setCell]
 have sh:Shown W (SR S (.slice (some ⟨g,0,none⟩) m cap)) _ (SR S (.slice (some ⟨g,0,none⟩) m cap)):=Shown.turned hT fun b _ hb=>.inr (by subst hb;rfl)
 refine ⟨fun b hb=>by rw[hsz];exact h0 b hb,hap,by rw[hsz];exact hb,a++([c0,c1,c2,c3]++r),?_,?_⟩
 ·have hlen:(A++y::C).length=m:=by rw[e1];simp
  rw[hlen]
  refine own_of_box ((((hL.set (k*4) c0).set (k*4+1) c1).set (k*4+2) c2).set (k*4+3) c3) g1 g2 g3 (by simpa using g4) ?_ (by simp at g6 ⊢;omega)
  simp only[List.take_set,g5]
  rw[List.set_append_right _ _ (by omega),List.set_append_right _ _ (by omega),List.set_append_right _ _ (by omega),List.set_append_right _ _ (by omega)]
  rw[show k*4-a.length=0 by omega,show k*4+1-a.length=1 by omega,show k*4+2-a.length=2 by omega,show k*4+3-a.length=3 by omega]
  rfl
 ·exact CellsG.append (k:=y::C) ⟨[c0,c1,c2,c3],r,rfl,rfl,hy.shown sh (by rw[hsz];exact Nat.le_refl _),k4.mono fun _ _ _ h=>h.shown sh (by rw[hsz];exact Nat.le_refl _)⟩ (k1.mono fun _ _ _ h=>h.shown sh (by rw[hsz];exact Nat.le_refl _))
theorem grownT_take {W:World} {S:Nat→Prop} {base g m cap:Nat} {A C:List Trm} (h:GrownT 26 W S base (A++C) (.slice (some ⟨g,0,none⟩) m cap)):GrownT 26 W S base A (.slice (some ⟨g,0,none⟩) A.length cap):=by
 have e1:=grownT_len h
 obtain ⟨h0,hap,hb,xs,h1,h2⟩:=h
 rw[←e1] at h1
 obtain ⟨L,hL,g1,g2,g3,g4,g5,g6⟩:=own_box h1
 obtain ⟨a,b,rfl,k1,k2⟩:=cellsG_split h2
 have hl:A.length≤m:=by rw[e1];simp
 refine ⟨h0,hap,hb,a,own_of_box hL g1 (by omega) g3 g4 ?_ k1.length,k1⟩
 have:=congrArg (List.take (A.length*4)) g5
 rw[List.take_take,Nat.min_eq_left (by omega),List.take_append_of_le_length (by rw[k1.length];exact Nat.le_refl _),List.take_of_length_le (l:=a) (by rw[k1.length];exact Nat.le_refl _)] at this
 exact this
theorem setCells_box (b:Nat) {t:TypeId}:∀(vs:List Value) (o:Nat) (W:World) (L:List Value),BoxL W b t L→o+vs.length≤L.length→∃L',BoxL (W.setCells b o vs) b t L'∧L'.length=L.length∧L'.take o=L.take o
 | [],o,W,L,h,_=>⟨L,h,rfl,rfl⟩
 | v::r,o,W,L,h,hl=>by
  obtain ⟨L',h1,h2,h3⟩:=setCells_box b r (o+1) (W.setCell ⟨b,o,none⟩ v) (L.set o v) (h.set o v) (by simp at hl ⊢;omega)
  refine ⟨L',h1,by simpa using h2,?_⟩
  have:=congrArg (List.take o) h3
  rw[List.take_take,Nat.min_eq_left (by omega),List.take_take,Nat.min_eq_left (by omega),List.take_set,List.set_eq_of_length_le (by rw[List.length_take];exact Nat.min_le_left _ _)] at this
  exact this
theorem setCells_turned (b:Nat):∀(vs:List Value) (o:Nat) (W:World),Turned (fun c=>c=b) W (W.setCells b o vs)∧(W.setCells b o vs).heap.size=W.heap.size
 | [],_,W=>⟨.refl _ _,rfl⟩
 | v::r,o,W=>by
  obtain ⟨h1,h2⟩:=setCells_turned b r (o+1) (W.setCell ⟨b,o,none⟩ v)
  exact ⟨(Turned.set (S:=fun c=>c=b) W ⟨b,o,none⟩ v rfl).next h1,by rw[←World.size_setCell W ⟨b,o,none⟩ v];exact h2⟩
theorem grownT_behind {W:World} {S:Nat→Prop} {base g m cap:Nat} {A:List Trm} {vs:List Value} (h:GrownT 26 W S base A (.slice (some ⟨g,0,none⟩) m cap)) (hl:m*4+vs.length≤cap*4):GrownT 26 (W.setCells g (m*4) vs) S base A (.slice (some ⟨g,0,none⟩) m cap):=by
 have hm:=grownT_len h
 obtain ⟨h0,hap,hb,xs,h1,h2⟩:=h
 rw[←hm] at h1
 obtain ⟨L,hL,g1,g2,g3,g4,g5,g6⟩:=own_box h1
 obtain ⟨ht,hsz⟩:=setCells_turned g vs (m*4) W
 obtain ⟨L',l1,l2,l3⟩:=setCells_box g vs (m*4) W L hL (by omega)
 have sh:Shown W (SR S (.slice (some ⟨g,0,none⟩) m cap)) _ (SR S (.slice (some ⟨g,0,none⟩) m cap)):=Shown.turned ht fun b _ hb=>.inr (by subst hb;rfl)
 refine ⟨fun b hb=>by rw[hsz];exact h0 b hb,hap,by rw[hsz];exact hb,xs,?_,h2.mono fun _ _ _ h=>h.shown sh (by rw[hsz];exact Nat.le_refl _)⟩
 rw[←hm]
 exact own_of_box l1 g1 g2 g3 (by omega) (by rw[l3];exact g5) g6
theorem run_clear_T (w:World) (ty:TypeId) (b o n c:Nat) {L:List Value} (hb:BoxL w b 26 L) (hl:o+n*4≤L.length):∃vs:List Value,vs.length=n*4∧(Builtin.clear_ #[24] ty #[.slice (some ⟨b,o,none⟩) n c]).run Tryz.prog w=.ok (.tuple #[]) (w.setCells b o vs):=by
 have hz:∀w,(zeroValue 26).run Tryz.prog w=.ok zeroTV w:=zeroT
 have hzl:(Builtin.zeroCells zeroTV.cells n).toList.length=n*4:=by
  simp[Builtin.zeroCells,zeroTV,Value.cells]
 refine ⟨(Builtin.zeroCells zeroTV.cells n).toList,hzl,?_⟩
 have hst:=run_storeCells_cells (P:=Tryz.prog) b o (Builtin.zeroCells zeroTV.cells n).toList 0 w (fun j hj=>by
  rw[hb.cell (o+0+j) (List.getElem?_eq_getElem (by omega))];rfl) (fun j hj=>hb.free _) (by
  intro v hv
  simp[Builtin.zeroCells,zeroTV,Value.cells] at hv
  obtain ⟨i,hi,rfl⟩:=hv
  have:i % 4<4:=Nat.mod_lt _ (by decide)
  match h:i % 4,this with
  | 0,_=>simp[Value.oneCell']
  | 1,_=>simp[Value.oneCell']
  | 2,_=>simp[Value.oneCell']
  | 3,_=>simp[Value.oneCell'])
 simp only[Nat.add_zero] at hst
 cases n with
 | zero=>simp[Builtin.clear_,run_underlying Tryz.underlying24,Builtin.zeroCells,World.setCells]
 | succ m=>simp[Builtin.clear_,run_underlying Tryz.underlying24,hz,hst]
theorem grownT_cells {W:World} {S:Nat→Prop} {base g m cap k:Nat} {A C:List Trm} {x:Trm} (h:GrownT 26 W S base (A++x::C) (.slice (some ⟨g,0,none⟩) m cap)) (hk:A.length=k):∃(ov ot:Option Addr) (lv cv lt ct:Nat),W.cell? ⟨g,k*4,none⟩=some (.int .i64 x.op)∧W.cell? ⟨g,k*4+1,none⟩=some (.int .i64 x.n)∧W.cell? ⟨g,k*4+2,none⟩=some (.slice ov lv cv)∧W.cell? ⟨g,k*4+3,none⟩=some (.slice ot lt ct) ∧
  TrmR (hide W (SR S (.slice (some ⟨g,0,none⟩) m cap))) W.heap.size x [.int .i64 x.op,.int .i64 x.n,.slice ov lv cv,.slice ot lt ct]:=by
 have e1:=grownT_len h
 obtain ⟨h0,hap,hb,xs,h1,h2⟩:=h
 rw[←e1] at h1
 obtain ⟨L,hL,g1,g2,g3,g4,g5,g6⟩:=own_box h1
 obtain ⟨a,b,rfl,k1,cs,r,rfl,k2,k3,k4⟩:=cellsG_split h2
 have ha:a.length=k*4:=by rw[k1.length,hk]
 obtain ⟨ov,lv,cv,ot,lt,ct,rfl,_⟩:=trmR_form k3
 have key:∀j u,([Value.int .i64 x.op,.int .i64 x.n,.slice ov lv cv,.slice ot lt ct]:List Value)[j]?=some u→W.cell? ⟨g,k*4+j,none⟩=some u:=fun j u hj=>by
  refine hL.cell (k*4+j) ?_
  have hjl:j<4:=by have:=(List.getElem?_eq_some_iff.1 hj).1;simpa using this
  have h3:(L.take (m*4))[k*4+j]?=some u:=by
   rw[g5,List.getElem?_append_right (by omega),show k*4+j-a.length=j by omega,List.getElem?_append_left (by simpa using hjl)]
   exact hj
  rw[List.getElem?_take] at h3
  split at h3
  ·exact h3
  ·cases h3
 exact ⟨ov,ot,lv,cv,lt,ct,key 0 _ rfl,key 1 _ rfl,key 2 _ rfl,key 3 _ rfl,k3⟩
theorem indexT_any (F:FuncId) (l:List Trm) (sl:Value) (B:Nat) (w:World) (p:Trm→Bool) (hv:TrmS w B l sl) (hB:B≤w.heap.size)
  (hF:∀(args:Array Value) (w:World),(callFunc F args).run Tryz.prog w=.ok (.enter F args) w)
  (H:∀x c0 c1 c2 c3 W,TrmR W B x [c0,c1,c2,c3]→Calls Tryz.prog F #[.agg #[c0,c1,c2,c3]] W fun e W'=>e=.returned (.bool (p x))∧Below W.heap.size W W') :
  Calls Tryz.prog 94 #[sl,.func (.func F) #[] #[]] w fun e w'=>Below w.heap.size w w'∧((∃k x,l[k]?=some x∧p x=true∧(∀y∈l.take k,p y=false)∧e=.returned (.int .i64 (k:Nat)))∨((∀y∈l,p y=false)∧e=.returned (.int .i64 (-1)))):=by
 obtain ⟨o,len,cap,rfl,hl,hcap,hmax⟩:=SlC.slice hv
 have HV:=Lib.hid hv
 have HL:=Lib.hid hl
 have HH:=Lib.hid H
 clear hv hl H
 go_enter Tryz.func94,Tryz.ntmps94
 go_wp2
 go_loopg [8] len (fun g i wr=>∃(j:Nat),g=len-j∧i=.int .i64 j∧j≤len∧Hid (Below w.heap.size w wr)∧Hid (∀y∈l.take j,p y=false))
 case atStart=>exact ⟨0,rfl,rfl,by omega,Lib.hid (Below.refl _ _),Lib.hid (by simp)⟩
 case round=>
  obtain ⟨j,rfl,rfl,hj,HB,HP⟩:=hrel
  by_cases hjl:j<len
  ·obtain ⟨x,hx⟩:∃x,l[j]?=some x:=⟨_,List.getElem?_eq_getElem (by rw[←HL.out];exact hjl)⟩
   obtain ⟨b,off,cs,ho,_,hcl,hcell,hr⟩:=SlC.at HV.out (HB.out.mono hB) hx
   subst ho
   match cs,hcl with
   | [c0,c1,c2,c3],_=>
    have e0:=hcell 0 _ rfl
    have e1:=hcell 1 _ rfl
    have e2:=hcell 2 _ rfl
    have e3:=hcell 3 _ rfl
    simp only[Nat.add_zero] at e0
    have HC:=Lib.hid (HH.out x _ _ _ _ wr (TrmR.kept (HB.out.mono hB) _ _ hr))
    obtain ⟨q,hq⟩:∃q,p x=q:=⟨_,rfl⟩
    rw[hq] at HC
    have HQ:=Lib.hid hq
    have HX:=Lib.hid hx
    clear hx hr hcell hq
    go_wp2_with fail
    refine HC.out.mono ?_
    rintro e' w1 ⟨rfl,h2⟩
    have HB1:=Lib.hid (HB.out.trans (h2.mono HB.out.size))
    clear h2
    cases q with
    | true=>
     go_wp2_with fail
     go_ret
     exact ⟨HB1.out,.inl ⟨j,x,HX.out,HQ.out,HP.out,rfl⟩⟩
    | false=>
     go_wp2_with fail
     go_roundg (len-(j+1))
     case measure=>omega
     case rel=>exact ⟨j+1,rfl,by go_num,by omega,HB1,Lib.hid (fun y hy=>by
      rw[List.take_add_one,HX.out] at hy
      rcases List.mem_append.1 hy with hy | hy
      ·exact HP.out y hy
      ·obtain rfl:y=x:=by simpa using hy
       exact HQ.out)⟩
  ·obtain rfl:j=len:=by omega
   go_wp2
   go_ret
   exact ⟨HB.out,.inr ⟨fun y hy=>HP.out y (by rw[List.take_of_length_le (by rw[←HL.out];exact Nat.le_refl _)];exact hy),rfl⟩⟩
end
section
open Go Go.RowKit
theorem TrmR.shape2 {W:World} {B:Nat} {x:Trm} {c0 c1 c2 c3:Value} (h:TrmR W B x [c0,c1,c2,c3]):∃q r u q' r' u',c0=.int .i64 x.op∧c1=.int .i64 x.n∧c2=.slice q r u∧c3=.slice q' r' u':=by
 obtain ⟨o,n,v,t⟩:=x
 obtain ⟨vs,ts,he,_,_,h3,h4⟩:=trmR_iff.1 h
 simp only[List.cons.injEq,and_true] at he
 obtain ⟨rfl,rfl,rfl,rfl⟩:=he
 obtain ⟨q,r,u,rfl⟩:=h3.form
 obtain ⟨q',r',u',rfl⟩:=SlC.form h4
 exact ⟨_,_,_,_,_,_,rfl,rfl,rfl,rfl⟩
theorem setOf_nil:setOf []=fun _=>false:=by funext x;simp[setOf,Trm.addV]
theorem check2_any (cs:List Dat) (x:Trm) (cc c0 c1 c2 c3:Value) (B:Nat) (w:World) (hcon:RepS w B cs cc) (hbody:TrmR w B x [c0,c1,c2,c3]) (hB:B≤w.heap.size) (hs:x.all≤390) (E:Int) (hE:(if Fd.okP cs x then (0:Int) else 5)=E) :
  Calls Tryz.prog 22 #[.agg #[cc,c0,c1,c2,c3],.int .i64 2] w fun e w'=>e=.returned (.int .i64 E)∧Below w.heap.size w w':=by
 obtain ⟨q,r,u,q',r',u',rfl,rfl,rfl,rfl⟩:=hbody.shape2
 obtain ⟨oc,lc,kc,rfl⟩:∃o l c,cc=.slice o l c:=by obtain ⟨o,l,c,h,_⟩:=hcon;exact ⟨o,l,c,h⟩
 have hlc:lc=cs.length:=by
  obtain ⟨o,l,c,h,h2,_⟩:=hcon
  simp only[Value.slice.injEq] at h
  obtain ⟨rfl,rfl,rfl⟩:=h
  exact h2
 obtain ⟨W3,hW3⟩:∃W3,((w.alloc (.cells #[.slice oc lc kc,.int .i64 x.op,.int .i64 x.n,.slice q r u,.slice q' r' u'] 28)).alloc (.map #[] 0)).alloc (.cells #[.int .i64 2,.int .i64 lc,.int .i64 0,.bool false,.int .i64 0,.map (some (w.heap.size+1))] 65)=W3:=⟨_,rfl⟩
 have HB3:=Lib.hid (show Below w.heap.size w W3 from by rw[←hW3];exact ((Below.one w _).trans ((Below.one _ _).mono (by simp))).trans ((Below.one _ _).mono (by simp;omega)))
 have HM3:=Lib.hid (show BoxL W3 w.heap.size 28 [.slice oc lc kc,.int .i64 x.op,.int .i64 x.n,.slice q r u,.slice q' r' u'] from by rw[←hW3];exact ((BoxL.new rfl _ _).alloc _).alloc _)
 have HC3:=Lib.hid (show BoxL W3 (w.heap.size+1+1) 65 [.int .i64 2,.int .i64 lc,.int .i64 0,.bool false,.int .i64 0,.map (some (w.heap.size+1))]∧MapVB W3 (w.heap.size+1) 0 (setOf []) from by
  rw[←hW3]
  refine ⟨BoxL.new (by simp) _ _,?_⟩
  have h:=MapVB.new (w.alloc (.cells #[.slice oc lc kc,.int .i64 x.op,.int .i64 x.n,.slice q r u,.slice q' r' u'] 28))
  rw[show (w.alloc (.cells #[.slice oc lc kc,.int .i64 x.op,.int .i64 x.n,.slice q r u,.slice q' r' u'] 28)).heap.size=w.heap.size+1 by simp] at h
  rw[setOf_nil]
  exact h.keep (Below.one _ _))
 obtain ⟨q1,hq1⟩:∃q1,(cs.all fun x=>Dat.right x 0)=q1:=⟨_,rfl⟩
 obtain ⟨q2,hq2⟩:∃q2,(Trm.wf lc 0 false x (fun _=>false)&&Trm.newB (fun _=>false) ([]++x.bnd))=q2:=⟨_,rfl⟩
 have HR:=Lib.hid (show (if (q1&&q2) then (0:Int) else 5)=E from by
  rw[←hE,Fd.okP,←hq1,←hq2,List.nil_append,hlc])
 have HK1:=Lib.hid (constants_any cs (.slice oc lc kc) B W3 (hcon.kept (HB3.out.mono hB)) (by have:=HB3.out.size;omega))
 rw[hq1] at HK1
 have HW:=Lib.hid hW3
 have HCON:=Lib.hid hcon
 have HBODY:=Lib.hid hbody
 have HQ2:=Lib.hid hq2
 have HS:=Lib.hid hs
 have hmm:=@run_makeMap Tryz.prog
 clear hW3 hcon hbody hlc hE hq1 hq2 hs
 go_enter Tryz.func22,Tryz.ntmps22
 go_upto_region 4 with fail
 rw[HW.out]
 have m0:=HM3.out.cell 0 rfl
 have ml:=HM3.out.lt
 cases q1 with
 | false=>
  obtain rfl:(5:Int)=E:=HR.out
  go_wp2_with fail
  with_reducible refine HK1.out.mono ?_
  rintro e w4 ⟨rfl,hb4⟩
  have HB4:=Lib.hid (HB3.out.trans (hb4.mono HB3.out.size))
  clear hb4 HK1 m0 ml HC3 HM3 HW
  go_wp2_with fail
  go_ret
  exact ⟨rfl,HB4.out⟩
 | true=>
  go_wp2_with fail
  with_reducible refine HK1.out.mono ?_
  rintro e w4 ⟨rfl,hb4⟩
  have HB4:=Lib.hid (HB3.out.trans (hb4.mono HB3.out.size))
  have HM4:=Lib.hid (HM3.out.keep hb4)
  have HC4:=Lib.hid (HC3.out.1.keep hb4)
  have HV4:=Lib.hid (HC3.out.2.keep hb4)
  have hz4:w.heap.size+1+1<w4.heap.size:=HC4.out.lt
  clear hb4 HK1 m0 ml HC3 HM3 HW
  have m1:=HM4.out.cell 1 rfl
  have m2:=HM4.out.cell 2 rfl
  have m3:=HM4.out.cell 3 rfl
  have m4:=HM4.out.cell 4 rfl
  have ml:=HM4.out.lt
  have HB5:=Lib.hid (HB4.out.trans ((Below.one w4 (.map #[] 0)).mono HB4.out.size))
  have HK2:=Lib.hid (tright_any x _ _ _ _ B (w.heap.size+1+1) (w.heap.size+1) w4.heap.size lc 0 0 false [] (fun _=>false) 0 (w4.alloc (.map #[] 0)) (TrmR.kept (HB5.out.mono hB) _ _ HBODY.out) (fun b hb=>by rcases hb with rfl | rfl | rfl<;>omega) (by have:=HB5.out.size;omega) ⟨HC4.out.alloc _,HV4.out.keep (Below.one _ _),(MapVB.new w4).mono (Nat.zero_le _),rfl,fun e=>by omega⟩ (fun _ h=>by cases h) (by omega) (by have:=HS.out;omega) (by omega) (by have:=HS.out;omega))
  rw[HQ2.out] at HK2
  go_wp2_with fail
  with_reducible refine HK2.out.mono ?_
  rintro e w5 ⟨rfl,ht5,hg5,hx5⟩
  have HBT:=Lib.hid (HB5.out.trans (ht5.below (fun b hb=>by rcases hb with rfl | rfl | rfl<;>omega) HB5.out.size))
  clear ht5 hg5 hx5 HK2 m1 m2 m3 m4 ml HM4 HC4
  cases q2 with
  | false=>
   obtain rfl:(5:Int)=E:=HR.out
   go_wp2_with fail
   all_goals go_ret
   all_goals exact ⟨rfl,HBT.out⟩
  | true=>
   obtain rfl:(0:Int)=E:=HR.out
   go_wp2_with fail
   all_goals go_ret
   all_goals exact ⟨rfl,HBT.out⟩
end
end Go.Proofs.YtgbibibmpoekiaaGreatDoor
