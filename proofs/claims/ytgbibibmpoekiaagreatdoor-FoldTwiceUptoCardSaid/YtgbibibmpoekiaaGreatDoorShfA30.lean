/-
  What the proofs lean on: DelF, FwQ.
-/
import Derived.Deep.LoopGhost
import Derived.Test.YtgbibibmpoekiaaGreatDoorShfA29
set_option maxRecDepth 100000
set_option maxHeartbeats 16000000
namespace Go.Proofs.YtgbibibmpoekiaaGreatDoor
section
open Go Go.RowKit
theorem fidle_to (x:Trm) (B:Nat) (w:World) {c0 c1 c2 c3:Value} (h:TrmR w B x [c0,c1,c2,c3]):Calls Tryz.prog 73 #[.agg #[c0,c1,c2,c3]] w fun e w'=>e=.returned (.bool (Fd.idle x))∧Below w.heap.size w w':=by
 obtain ⟨ov,lv,cv,ot,lt,ct,he,_⟩:=trmR_form h
 simp only[List.cons.injEq,and_true] at he
 obtain ⟨rfl,rfl,rfl,rfl⟩:=he
 exact fidle_any _ _ _ _ _ _ _ _ w
structure DfI (w:World) (S:Nat→Prop) (base g m cap:Nat) (l P N C:List Trm) (j:Nat) (wr:World):Prop where
 cut:∃D,l=D++C∧D.length=j∧P=D.filter fun x=>!Fd.idle x
 len:P.length+N.length=j
 row:GrownT 26 wr S base (P++(N++C)) (.slice (some ⟨g,0,none⟩) m cap)
 turn:Turned (fun b=>b=g) w wr
theorem delT_any (S:Nat→Prop) (base g m cap:Nat) (l:List Trm) (w:World) (h:GrownT 26 w S base l (.slice (some ⟨g,0,none⟩) m cap)) (hm:m≤100000) :
  Calls Tryz.prog 72 #[.slice (some ⟨g,0,none⟩) m cap,.func (.func 73) #[] #[]] w fun e w'=>∃k,e=.returned (.slice (some ⟨g,0,none⟩) k cap)∧GrownT 26 w' S base (l.filter fun x=>!Fd.idle x) (.slice (some ⟨g,0,none⟩) k cap)∧Turned (fun b=>b=g) w w':=by
 have HI:=Lib.hid (indexT_any 73 l (.slice (some ⟨g,0,none⟩) m cap) w.heap.size w Fd.idle h.rep.unhide (Nat.le_refl _) (fun _ _=>rfl) fun x c0 c1 c2 c3 W hx=>fidle_to x _ W hx)
 have hml:=grownT_len h
 have hmc:m≤cap:=by obtain ⟨_,_,_,xs,h1,_⟩:=h;rw[←hml] at h1;exact (own_box h1).choose_spec.2.2.1
 have HM:=Lib.hid hml
 have HG:=Lib.hid h
 clear h hml
 go_enter Tryz.func72,Tryz.ntmps72
 go_wp2_with fail
 refine HI.out.mono ?_
 rintro e w1 ⟨hb1,hc⟩
 have HB1:=Lib.hid hb1
 clear hb1
 rcases hc with ⟨k,x,hx,hp,hq,rfl⟩ | ⟨hp,rfl⟩
 ·have hkl:k<m:=by rw[HM.out];exact (List.getElem?_eq_some_iff.1 hx).1
  have d1:((k:Int) == -1)=false:=by simp
  have hsp:l=l.take k++x::l.drop (k+1):=by
   obtain ⟨h1,h2⟩:=List.getElem?_eq_some_iff.1 hx
   rw[←h2,List.getElem_cons_drop]
   exact (List.take_append_drop k l).symm
  have htk:(l.take k).length=k:=by rw[List.length_take];have:=HM.out;omega
  have hfl:(l.take k).filter (fun x=>!Fd.idle x)=l.take k:=List.filter_eq_self.2 fun y hy=>by rw[hq y hy];rfl
  have HI0:=Lib.hid (show DfI w S base g m cap l (l.take k) [x] (l.drop (k+1)) (k+1) w1 from by
   refine ⟨⟨l.take k++[x],by rw[List.append_assoc];exact hsp,by simp[htk],?_⟩,by simp[htk],?_,.of_below HB1.out⟩
   ·rw[List.filter_append,hfl];simp[hp]
   ·have:=HG.out.below HB1.out
    rw[hsp] at this
    exact this)
  clear hx hp hq hsp hfl
  go_wp2_with fail
  go_loopg [5,6] (m-(k+1)) (fun G i j wr=>∃(jn:Nat) (P N C:List Trm),G=m-jn∧i=.int .i64 P.length∧j=.int .i64 jn∧jn≤m∧0<N.length∧Hid (DfI w S base g m cap l P N C jn wr))
  case atStart=>exact ⟨k+1,l.take k,[x],l.drop (k+1),rfl,by rw[htk],by go_num,by omega,by simp,HI0⟩
  case round=>
   obtain ⟨jn,P,N,C,rfl,rfl,rfl,hjm,hN,HD⟩:=hrel
   obtain ⟨i,hi⟩:∃i,P.length=i:=⟨_,rfl⟩
   rw[hi]
   have HPI:=Lib.hid hi
   have hlen:=HD.out.len
   by_cases hjl:jn<m
   ·obtain ⟨D,hD1,hD2,hD3⟩:=HD.out.cut
    have hCl:C.length=m-jn:=by rw[HM.out,hD1,List.length_append,hD2];omega
    obtain ⟨x,C',rfl⟩:∃x C',C=x::C':=by
     cases C with
     | nil=>simp at hCl;omega
     | cons x C'=>exact ⟨x,C',rfl⟩
    obtain ⟨y,N',rfl⟩:∃y N',N=y::N':=by
     cases N with
     | nil=>simp at hN
     | cons y N'=>exact ⟨y,N',rfl⟩
    have hrow:=HD.out.row
    obtain ⟨xov,xot,xlv,xcv,xlt,xct,e0,e1,e2,e3,hxr⟩:=grownT_cells (A:=P++(y::N')) (C:=C') (x:=x) (k:=jn) (by rw[List.append_assoc];exact hrow) (by rw[List.length_append];exact hlen)
    have HXR:=Lib.hid hxr
    have HDI:=Lib.hid (⟨D,hD1,hD2,hD3⟩:∃D,l=D++x::C'∧D.length=jn∧P=D.filter fun x=>!Fd.idle x)
    obtain ⟨W2,hW2⟩:∃W2,wr.alloc (.cells #[.int .i64 x.op,.int .i64 x.n,.slice xov xlv xcv,.slice xot xlt xct] 26)=W2:=⟨_,rfl⟩
    have hb2:Below wr.heap.size wr W2:=by rw[←hW2];exact Below.one _ _
    have HX2:=Lib.hid (show BoxL W2 wr.heap.size 26 [.int .i64 x.op,.int .i64 x.n,.slice xov xlv xcv,.slice xot xlt xct] from by rw[←hW2];exact BoxL.new rfl _ _)
    have HR2:=Lib.hid (hrow.below hb2)
    have HT2:=Lib.hid (HD.out.turn.next (.of_below hb2))
    have HC:=Lib.hid (fidle_to x _ W2 ((hxr.unhide).kept hb2))
    obtain ⟨q,hq⟩:∃q,Fd.idle x=q:=⟨_,rfl⟩
    rw[hq] at HC
    have HQ:=Lib.hid hq
    have HW2:=Lib.hid hW2
    have HB2:=Lib.hid hb2
    have el:=cell_lt e0
    clear hrow hxr hW2 hb2 hq hD1 hD2 hD3 hCl HD hi
    go_upto_region 8 with fail
    rw[HW2.out]
    have g0:=HX2.out.cell 0 rfl
    have g1:=HX2.out.cell 1 rfl
    have g2:=HX2.out.cell 2 rfl
    have g3:=HX2.out.cell 3 rfl
    have gl:=HX2.out.lt
    clear e0 e1 e2 e3 el
    go_wp2_with fail
    refine HC.out.mono ?_
    rintro e W3 ⟨rfl,hb3⟩
    have HX3:=Lib.hid (HX2.out.keep hb3)
    have HR3:=Lib.hid (HR2.out.below hb3)
    have HT3:=Lib.hid (HT2.out.next (.of_below hb3))
    have HXS:=Lib.hid ((HXR.out.shown (Shown.below HB2.out) HB2.out.size).shown (Shown.below hb3) hb3.size)
    clear hb3 g0 g1 g2 g3 gl HX2 HR2 HT2
    have g0:=HX3.out.cell 0 rfl
    have g1:=HX3.out.cell 1 rfl
    have g2:=HX3.out.cell 2 rfl
    have g3:=HX3.out.cell 3 rfl
    have gl:=HX3.out.lt
    cases q with
    | true=>
     go_wp2_with fail
     go_roundg (m-(jn+1))
     case measure=>omega
     case rel=>exact ⟨jn+1,P,y::N'++[x],C',rfl,by rw[HPI.out],by go_num,by omega,by simp,Lib.hid (by
      obtain ⟨D,h1,h2,h3⟩:=HDI.out
      refine ⟨⟨D++[x],by rw[List.append_assoc];exact h1,by simp[h2],?_⟩,by simp at hlen ⊢;omega,?_,HT3.out⟩
      ·rw[List.filter_append,←h3];simp[HQ.out]
      ·have:=HR3.out
       simpa using this)⟩
    | false=>
     obtain ⟨yov,yot,ylv,ycv,ylt,yct,f0,f1,f2,f3,_⟩:=grownT_cells (A:=P) (C:=N'++x::C') (x:=y) (k:=i) HR3.out HPI.out
     obtain ⟨L,hL⟩:∃L,BoxL W3 g 26 L:=by
      obtain ⟨_,_,_,xs,h1,_⟩:=HR3.out
      have:=grownT_len HR3.out
      rw[←this] at h1
      exact ⟨_,(own_box h1).choose_spec.1⟩
     have z0:=hL.free (i*4)
     have z1:=hL.free (i*4+1)
     have z2:=hL.free (i*4+2)
     have z3:=hL.free (i*4+3)
     have gll:=hL.lt
     have HRS:=Lib.hid (grownT_set (A:=P) (C:=N'++x::C') (x:=y) (y:=x) (k:=i) HR3.out HPI.out HXS.out)
     have HTS:=Lib.hid (HT3.out.next ((((Turned.set (S:=fun b=>b=g) W3 ⟨g,i*4,none⟩ (.int .i64 x.op) rfl).next (Turned.set _ ⟨g,i*4+1,none⟩ (.int .i64 x.n) rfl)).next (Turned.set _ ⟨g,i*4+2,none⟩ (.slice xov xlv xcv) rfl)).next (Turned.set _ ⟨g,i*4+3,none⟩ (.slice xot xlt xct) rfl)))
     clear hL
     have hil:i<m:=by have:=HPI.out;simp at hlen;omega
     go_wp2_with fail
     go_roundg (m-(jn+1))
     case measure=>omega
     case rel=>exact ⟨jn+1,P++[x],N'++[x],C',rfl,by rw[List.length_append,HPI.out];go_num,by go_num,by omega,by simp,Lib.hid (by
      obtain ⟨D,h1,h2,h3⟩:=HDI.out
      refine ⟨⟨D++[x],by rw[List.append_assoc];exact h1,by simp[h2],?_⟩,by simp at hlen ⊢;omega,?_,HTS.out⟩
      ·rw[List.filter_append,←h3];simp[HQ.out]
      ·have:=HRS.out
       simpa using this)⟩
   ·obtain rfl:jn=m:=by omega
    obtain ⟨D,hD1,hD2,hD3⟩:=HD.out.cut
    have hC:C=[]:=List.eq_nil_of_length_eq_zero (by have:=congrArg List.length hD1;rw[List.length_append,hD2,←HM.out] at this;omega)
    subst hC
    rw[List.append_nil] at hD1
    subst hD1
    have hrow:=HD.out.row
    rw[List.append_nil] at hrow
    have him:i<jn:=by have:=HPI.out;omega
    have hic:i<cap:=by omega
    obtain ⟨L,hL,_,_,_,hLl,_⟩:∃L:List Value,BoxL wr g 26 L∧True∧True∧True∧L.length=cap*4∧True:=by
     obtain ⟨_,_,_,xs,h1,_⟩:=hrow
     have:=grownT_len HD.out.row
     rw[List.append_nil] at this
     rw[←this] at h1
     obtain ⟨L,a1,a2,a3,a4,a5,a6,a7⟩:=own_box h1
     exact ⟨L,a1,trivial,trivial,trivial,a5,trivial⟩
    obtain ⟨vs,hvl⟩:∃vs:List Value,vs.length=(jn-i)*4∧∀ty,(Builtin.clear_ #[24] ty #[.slice (some ⟨g,i*4,none⟩) (jn-i) (cap-i)]).run Tryz.prog wr=.ok (.tuple #[]) (wr.setCells g (i*4) vs):=by
     obtain ⟨vs,h1,h2⟩:=run_clear_T wr 0 g (i*4) (jn-i) (cap-i) hL (by omega)
     exact ⟨vs,h1,fun ty=>h2⟩
    have hcl:=hvl.2
    have hgt:=grownT_take hrow
    rw[HPI.out] at hgt
    have HGF:=Lib.hid (show GrownT 26 (wr.setCells g (i*4) vs) S base (l.filter fun x=>!Fd.idle x) (.slice (some ⟨g,0,none⟩) i cap) from by
     rw[←hD3]
     exact grownT_behind hgt (by rw[hvl.1];omega))
    have HTF:=Lib.hid (HD.out.turn.next (setCells_turned g vs (i*4) wr).1)
    clear hrow hL hLl hgt hD3 hD2 HD hi hvl HM
    go_wp2_with fail
    go_ret
    exact ⟨i,rfl,HGF.out,HTF.out⟩
 ·go_wp2_with fail
  go_ret
  exact ⟨m,rfl,by rw[List.filter_eq_self.2 fun y hy=>by rw[hp y hy];rfl];exact HG.out.below HB1.out,.of_below HB1.out⟩
end
section
open Go Go.RowKit
theorem wrapN {n:Nat} (h:n≤1000000000):IntKind.i64.wrap (n:Int)=n:=by
 simp[IntKind.wrap,IntKind.bits,IntKind.signed]
 omega
theorem flat_app:∀l k:List Trm,Fd.flat (l++k)=Fd.flat l++Fd.flat k
 | [],k=>rfl
 | x::l,k=>by
  rw[List.cons_append,Fd.flat,Fd.flat,flat_app l k]
  split<;>simp
theorem flat_one (x:Trm):Fd.flat [x]=if x.op=6 then x.t else [x]:=by
 rw[Fd.flat]
 split<;>simp[Fd.flat]
theorem flat_take {l:List Trm} {j:Nat} {x:Trm} (h:l[j]?=some x):Fd.flat (l.take (j+1))=Fd.flat (l.take j)++if x.op=6 then x.t else [x]:=by
 rw[List.take_add_one,h,flat_app]
 show Fd.flat (l.take j)++Fd.flat [x]=_
 rw[flat_one]
theorem flat_count:∀l:List Trm,(Fd.flat l).length≤Trm.allL l
 | []=>Nat.le_refl _
 | x::l=>by
  have ih:=flat_count l
  rw[Fd.flat,Trm.allL]
  split
  ·obtain ⟨o,n,v,t⟩:=x
   have:=Trm.allL_length t
   rw[List.length_append,Trm.all]
   show t.length+_≤_
   omega
  ·have:=x.all_pos
   rw[List.length_cons];omega
theorem flat_some {l:List Trm} (hl:l≠[]) (hs:∀y∈l,y.op=6→y.t≠[]):Fd.flat l≠[]:=by
 cases l with
 | nil=>exact absurd rfl hl
 | cons x l=>
  rw[Fd.flat]
  split
  ·rename_i h
   intro e
   exact hs x (by simp) h (List.append_eq_nil_iff.1 e).1
  ·simp
theorem seq_eq {l A:List Trm} {x:Trm} (h:Fd.flat l=A++[x]):Fd.seq l=if (A.filter fun x=>!Fd.idle x)=[] then x else .mk 6 0 [] ((A.filter fun x=>!Fd.idle x)++[x]):=by
 unfold Fd.seq
 rw[h,List.dropLast_concat,List.getLast?_concat]
 cases (A.filter fun x=>!Fd.idle x) with
 | nil=>rfl
 | cons y r=>rw[if_neg (by simp)]
def SB (S:Nat→Prop) (a:Nat) (b:Nat):Prop:=S b∨b=a
structure SqI (w:World) (S:Nat→Prop) (v3:Value) (l:List Trm) (wr:World):Prop where
 rb:BoxL wr w.heap.size 26 [.int .i64 0,.int .i64 0,.slice none 0 0,.slice none 0 0]
 row:GrownT 26 wr (SB S w.heap.size) (w.heap.size+1) l v3
 below:Below w.heap.size w wr
def SqR (S:Nat→Prop) (base g m cap:Nat) (xv:Value) (A:List Trm) (x:Trm) (i:Nat) (v:Value) (W:World):Prop:=match i with
 | 0=>v=.slice (some ⟨g,0,none⟩) (m+1) cap
 | 1=>v=.slice (some ⟨g,0,none⟩) (m+1) cap
 | 2=>v=.int .i64 ((m:Nat)+1:Int)
 | 3=>v=.int .i64 (m:Nat)
 | 4=>v=.slice (some ⟨g,0,none⟩) m cap
 | 5=>∃k,v=.slice (some ⟨g,0,none⟩) k cap∧GrownT 26 W S base (A.filter fun x=>!Fd.idle x) (.slice (some ⟨g,0,none⟩) k cap)
 | 6=>v=xv
 | 7=>TrmS (hide W (SR S (.slice (some ⟨g,0,none⟩) (m+1) cap))) W.heap.size [x] v
 | _=>True
theorem sqR_kept {S:Nat→Prop} {base g m cap:Nat} {xv:Value} {A:List Trm} {x:Trm}:∀i v A' B,i≠5→SqR S base g m cap xv A x i v A'→Turned (fun b=>b=g) A' B→SqR S base g m cap xv A x i v B:=fun i v A' B hi h ht=>by
 match i,hi with
 | 0,_=>exact h
 | 1,_=>exact h
 | 2,_=>exact h
 | 3,_=>exact h
 | 4,_=>exact h
 | 5,hi=>exact absurd rfl hi
 | 6,_=>exact h
 | 7,_=>exact TrmS.shown h (Shown.turned ht fun b _ hb=>.inr (by subst hb;rfl)) ht.size
 | i+8,_=>trivial
theorem grownT_some {W:World} {S:Nat→Prop} {base:Nat} {l:List Trm} {v:Value} (h:GrownT 26 W S base l v) (hl:l≠[]):∃g cap,v=.slice (some ⟨g,0,none⟩) l.length cap∧l.length≤cap:=by
 obtain ⟨_,_,_,xs,h1,_⟩:=h
 rcases h1.2 with ⟨_,h0⟩ | ⟨g,cap,cur,hv,_,_,h2,_⟩
 ·exact absurd (List.eq_nil_of_length_eq_zero h0) hl
 ·exact ⟨g,cap,hv,h2⟩
theorem fseq_any (S:Nat→Prop) (l:List Trm) (sl:Value) (w:World) (hv:TrmS (hide w S) w.heap.size l sl) (hS:∀b,S b→b<w.heap.size) (hne:l≠[]) (hs6:∀y∈l,y.op=6→y.t≠[]) (hall:Trm.allL l≤90000) :
  Calls Tryz.prog 39 #[sl] w (TmPost S (Fd.seq l) w):=by
 obtain ⟨oq,lt,cq,rfl⟩:=SlC.form hv
 have HV:=Lib.hid hv
 have HLT:=Lib.hid (SlC.lens hv).1
 have hlt:lt≤90000:=by have:=Trm.allL_length l;have:=(SlC.lens hv).1;omega
 have HS:=Lib.hid hS
 have HALL:=Lib.hid hall
 have HNE:=Lib.hid (flat_some hne hs6)
 obtain ⟨W1,hW1⟩:∃W1,w.alloc (.cells #[.int .i64 0,.int .i64 0,.slice none 0 0,.slice none 0 0] 26)=W1:=⟨_,rfl⟩
 have hb1:Below w.heap.size w W1:=by rw[←hW1];exact Below.one w _
 have hs1:W1.heap.size=w.heap.size+1:=by rw[←hW1];simp
 have HI1:=Lib.hid (show SqI w S (.slice none 0 0) [] W1 from ⟨by rw[←hW1];exact BoxL.new rfl _ _,GrownT.nil W1 (fun b hb=>by rcases hb with hb | hb;(have:=hS b hb;omega);omega) (by omega),hb1⟩)
 have HW1:=Lib.hid hW1
 clear hv hS hne hs6 hall hW1 hb1 hs1
 go_enter Tryz.func39,Tryz.ntmps39
 go_upto_region 2 with fail
 rw[HW1.out]
 go_wp2_with fail
 go_loopg [3,10] lt (fun g v3 i wr=>∃(j:Nat),g=lt-j∧j≤lt∧i=.int .i64 j∧Hid (SqI w S v3 (Fd.flat (l.take j)) wr))
 case atStart=>exact ⟨0,rfl,by omega,rfl,by simpa[Fd.flat] using HI1⟩
 case round=>
  obtain ⟨j,rfl,hj,rfl,HI⟩:=hrel
  obtain ⟨o3,l3,c3,rfl,hd1,hd2⟩:=HI.out.row.form
  clear hd1 hd2
  by_cases hjl:j<lt
  ·obtain ⟨y,hy⟩:∃y,l[j]?=some y:=⟨_,List.getElem?_eq_getElem (by rw[←HLT.out];exact hjl)⟩
   have hsh:Shown w S wr (SR (SB S w.heap.size) (.slice o3 l3 c3)):=shown_more HI.out.below fun b hb=>by
    rcases hb with (hb | hb) | hb
    ·exact .inl hb
    ·exact .inr (by omega)
    ·have:=(HI.out.row.block hb).1;exact .inr (by omega)
   obtain ⟨eb,eo,es,he,_,hcl,hcell,hir⟩:=SlC.at (TrmS.shown HV.out hsh HI.out.below.size) (Below.refl _ _) hy
   subst he
   obtain ⟨oy,ny,ky,oz,nz,kz,rfl,_,_,_,hyt⟩:=trmR_form hir
   have e0:=(hide_some (hcell 0 _ rfl)).2
   have e1:=(hide_some (hcell 1 _ rfl)).2
   have e2:=(hide_some (hcell 2 _ rfl)).2
   have e3:=(hide_some (hcell 3 _ rfl)).2
   simp only[Nat.add_zero] at e0
   have HY:=Lib.hid hir
   have HYT:=Lib.hid hyt
   have HFT:=Lib.hid (flat_take hy)
   have HFL:=Lib.hid (show (Fd.flat (l.take j)).length≤90000 from by have:=flat_count (l.take j);have:=Trm.allL_take_le l j;have:=HALL.out;omega)
   have HYL:=Lib.hid (show y.t.length≤90000 from by
    have h1:=Trm.allL_mem (List.mem_of_getElem? hy)
    obtain ⟨_,_,_,t⟩:=y
    have:=Trm.allL_length t
    have:=HALL.out
    rw[Trm.all] at h1
    show t.length≤_
    omega)
   clear hir hcell hy hsh hcl hyt
   go_upto_region 5 with fail
   obtain ⟨W5,hW5⟩:∃W5,wr.alloc (.cells #[.int .i64 y.op,.int .i64 y.n,.slice oy ny ky,.slice oz nz kz] 26)=W5:=⟨_,rfl⟩
   have hb5:Below wr.heap.size wr W5:=by rw[←hW5];exact Below.one _ _
   have HE5:=Lib.hid (show BoxL W5 wr.heap.size 26 [.int .i64 y.op,.int .i64 y.n,.slice oy ny ky,.slice oz nz kz] from by rw[←hW5];exact BoxL.new rfl _ _)
   have HI5:=Lib.hid (show SqI w S (.slice o3 l3 c3) (Fd.flat (l.take j)) W5 from ⟨HI.out.rb.keep hb5,HI.out.row.below hb5,HI.out.below.trans (hb5.mono HI.out.below.size)⟩)
   have HY5:=Lib.hid (HY.out.shown (Shown.below hb5) hb5.size)
   have HYT5:=Lib.hid (HYT.out.shown (Shown.below hb5) hb5.size)
   rw[hW5]
   clear hb5 hW5 e0 e1 e2 e3 HI HY HYT
   have g0:=HE5.out.cell 0 rfl
   have g1:=HE5.out.cell 1 rfl
   have g2:=HE5.out.cell 2 rfl
   have g3:=HE5.out.cell 3 rfl
   have gl:=HE5.out.lt
   by_cases h6:y.op=6
   ·have f6:(y.op==6)=true:=by simpa using h6
    have HFT6:=Lib.hid (show Fd.flat (l.take (j+1))=Fd.flat (l.take j)++y.t by rw[HFT.out,if_pos h6])
    clear h6
    go_wp2_with (at_builtin;refine wpList_growTF rfl (.tmp 17) (.tmp 19) rfl (w.heap.size+1) _ _ (Fd.flat (l.take j)) y.t rfl HI5.out.row rfl HYT5.out (by have:=HFL.out;have:=HYL.out;omega) ?_)
    intro o9 l9 c9 W9 h1 h2 h3
    have HI9:=Lib.hid (show SqI w S (.slice o9 l9 c9) (Fd.flat (l.take (j+1))) W9 from ⟨h3.out.box HI5.out.rb (fun e=>by have:=(HI5.out.row.block e).1;omega),by rw[HFT6.out];exact h1.out,HI5.out.below.trans (h2.out.mono (by omega))⟩)
    clear h1 h2 h3 g0 g1 g2 g3 gl
    go_wp2_with fail
    go_roundg (lt-(j+1))
    case measure=>omega
    case rel=>exact ⟨j+1,rfl,by omega,by go_num,HI9⟩
   ·have f6:(y.op==6)=false:=by simpa using h6
    have HFT6:=Lib.hid (show Fd.flat (l.take (j+1))=Fd.flat (l.take j)++[y] by rw[HFT.out,if_neg h6])
    clear h6
    have hS0:∀b,SR (SB S w.heap.size) (.slice o3 l3 c3) b→b<W5.heap.size:=svT_lt HI5.out.row (Nat.le_refl _)
    have hb6:=Below.one W5 (.cells #[.int .i64 y.op,.int .i64 y.n,.slice oy ny ky,.slice oz nz kz] 26)
    have HONE:=Lib.hid (trmS_one HY5.out hS0)
    have HG6:=Lib.hid (HI5.out.row.below hb6)
    have HR6:=Lib.hid (HI5.out.rb.keep hb6)
    have HB6:=Lib.hid (HI5.out.below.trans (hb6.mono HI5.out.below.size))
    clear hb6
    go_wp2_with (at_builtin;refine wpList_growTF rfl (.tmp 21) (.tmp 23) rfl (w.heap.size+1) _ _ (Fd.flat (l.take j)) [y] rfl HG6.out rfl HONE.out (by have:=HFL.out;simp;omega) ?_)
    intro o9 l9 c9 W9 h1 h2 h3
    have HI9:=Lib.hid (show SqI w S (.slice o9 l9 c9) (Fd.flat (l.take (j+1))) W9 from ⟨h3.out.box HR6.out (fun e=>by have:=(HI5.out.row.block e).1;omega),by rw[HFT6.out];exact h1.out,HB6.out.trans (h2.out.mono (by omega))⟩)
    clear h1 h2 h3 g0 g1 g2 g3 gl
    go_wp2_with fail
    go_roundg (lt-(j+1))
    case measure=>omega
    case rel=>exact ⟨j+1,rfl,by omega,by go_num,HI9⟩
  ·obtain rfl:lt=j:=by omega
   have htt:l.take lt=l:=List.take_of_length_le (by rw[←HLT.out];exact Nat.le_refl _)
   rw[htt] at HI
   obtain ⟨A,x,hA⟩:∃A x,Fd.flat l=A++[x]:=by
    rcases List.eq_nil_or_concat (Fd.flat l) with h | ⟨A,x,h⟩
    ·exact absurd h HNE.out
    ·exact ⟨A,x,by rw[h,List.concat_eq_append]⟩
   obtain ⟨k,hk⟩:∃k,A.length=k:=⟨_,rfl⟩
   have hkl:k+1≤90000:=by have:=flat_count l;have:=HALL.out;rw[hA,List.length_append,hk] at *;simp at *;omega
   rw[hA] at HI
   obtain ⟨g,cap,hv3,hcap⟩:=grownT_some HI.out.row (by simp)
   simp only[Value.slice.injEq] at hv3
   obtain ⟨rfl,hl3,rfl⟩:=hv3
   have hl4:l3=k+1:=by rw[hl3,List.length_append,hk];rfl
   subst hl4
   have hcap:k+1≤c3:=by rw[hl3];exact hcap
   obtain ⟨xov,xot,xlv,xcv,xlt,xct,e0,e1,e2,e3,hxr⟩:=grownT_cells (A:=A) (C:=[]) (x:=x) (k:=k) HI.out.row hk
   have el:=cell_lt e0
   have HXR:=Lib.hid hxr
   have HK:=Lib.hid hk
   have HSE:=Lib.hid (seq_eq hA)
   clear hxr hk hl3 htt hA
   go_upto_region 10 with fail
   obtain ⟨W5,hW5⟩:∃W5,wr.alloc (.cells #[.int .i64 x.op,.int .i64 x.n,.slice xov xlv xcv,.slice xot xlt xct] 26)=W5:=⟨_,rfl⟩
   rw[hW5]
   have hb5:Below wr.heap.size wr W5:=by rw[←hW5];exact Below.one _ _
   have HE5:=Lib.hid (show BoxL W5 wr.heap.size 26 [.int .i64 x.op,.int .i64 x.n,.slice xov xlv xcv,.slice xot xlt xct] from by rw[←hW5];exact BoxL.new rfl _ _)
   have HI5:=Lib.hid (show SqI w S (.slice (some ⟨g,0,none⟩) (k+1) c3) (A++[x]) W5 from ⟨HI.out.rb.keep hb5,HI.out.row.below hb5,HI.out.below.trans (hb5.mono HI.out.below.size)⟩)
   have HX5:=Lib.hid (HXR.out.shown (Shown.below hb5) hb5.size)
   have HGA:=Lib.hid (grownT_take HI5.out.row)
   have hgl:=(HI.out.row.block (g:=g) rfl)
   have hgn:g≠wr.heap.size:=by omega
   have hga:g≠w.heap.size:=by omega
   clear hb5 hW5 e0 e1 e2 e3 el HI HXR
   have HD5:=Lib.hid ((Below.refl W5.heap.size W5).drew)
   have hS0:∀b,SR (SB S w.heap.size) (.slice (some ⟨g,0,none⟩) (k+1) c3) b→b<W5.heap.size:=svT_lt HI5.out.row (Nat.le_refl _)
   refine wp_region_appF 8 5 (SqR (SB S w.heap.size) (w.heap.size+1) g k c3 (.agg #[.int .i64 x.op,.int .i64 x.n,.slice xov xlv xcv,.slice xot xlt xct]) A x) (fun b=>b=g) (by kernel_rfl) (by kernel_rfl) (fun i v A B hi h _ ht=>sqR_kept i v A B hi h ht) (fun v A B h _ hb=>by
    obtain ⟨q,h1,h2⟩:=h
    exact ⟨q,h1,h2.below hb⟩) ?hops ?hp ?hend
   case hops=>
    intro i q8 hi hip ho a w1 hex hdep hrest
    have ht:Turned (fun b=>b=g) W5 w1:=(Turned.of_below HD5.out).next hex
    match i,hi with
    | 0,_=>
     cases ho
     exact wp_moveF rfl ⟨_,rfl,hrest.at 3 (by kernel_rfl),Below.refl _ _⟩
    | 1,_=>
     cases ho
     exact wp_moveF rfl ⟨_,rfl,hrest.at 3 (by kernel_rfl),Below.refl _ _⟩
    | 2,_=>
     cases ho
     have h33:a.tmps.getD 33 undef=.slice (some ⟨g,0,none⟩) (k+1) c3:=hdep.at 1 33 (by kernel_rfl)
     exact wp_valF (v:=.int .i64 ((k:Nat)+1:Int)) (w':=w1) (by go_simp) ⟨_,rfl,rfl,Below.refl _ _⟩
    | 3,_=>
     cases ho
     have h34:a.tmps.getD 34 undef=.int .i64 ((k:Nat)+1:Int):=hdep.at 2 34 (by kernel_rfl)
     exact wp_valF (v:=.int .i64 (k:Nat)) (w':=w1) (by go_simp;exact wrapN (by omega)) ⟨_,rfl,rfl,Below.refl _ _⟩
    | 4,_=>
     cases ho
     have h32:a.tmps.getD 32 undef=.slice (some ⟨g,0,none⟩) (k+1) c3:=hdep.at 0 32 (by kernel_rfl)
     have h35:a.tmps.getD 35 undef=.int .i64 (k:Nat):=hdep.at 3 35 (by kernel_rfl)
     exact wp_valF (v:=.slice (some ⟨g,0,none⟩) k c3) (w':=w1) (by go_simp;intro h;omega) ⟨_,rfl,rfl,Below.refl _ _⟩
    | 5,_=>exact absurd rfl hip
    | 6,_=>
     cases ho
     have h6:a.tmps.getD 6 undef=.pointer (some ⟨wr.heap.size,0,none⟩):=hrest.at 6 (by kernel_rfl)
     have hbx:=ht.box HE5.out (fun e=>hgn e.symm)
     have c0:=hbx.cell 0 rfl
     have c1:=hbx.cell 1 rfl
     have c2:=hbx.cell 2 rfl
     have c3:=hbx.cell 3 rfl
     have cl:=hbx.lt
     exact wp_valF (v:=.agg #[.int .i64 x.op,.int .i64 x.n,.slice xov xlv xcv,.slice xot xlt xct]) (w':=w1) (by go_simp) ⟨_,rfl,rfl,Below.refl _ _⟩
    | 7,_=>
     cases ho
     exact wp_bsT (S:=SR (SB S w.heap.size) (.slice (some ⟨g,0,none⟩) (k+1) c3)) rfl ⟨_,_,_,_,_,_,_,_,hdep.at 6 38 (by kernel_rfl),HX5.out.shown (Shown.turned ht fun b _ hb=>.inr (by subst hb;rfl)) ht.size⟩ (fun b hb=>Nat.lt_of_lt_of_le (hS0 b hb) ht.size) fun v w' h1 h2=>⟨v,rfl,h1,h2⟩
    | i+8,hi=>exact absurd hi (by omega)
   case hp=>
    intro q8 _ ho a w1 hex hdep hrest
    cases ho
    have h36:a.tmps.getD 36 undef=.slice (some ⟨g,0,none⟩) k c3:=hdep.at 4 36 (by kernel_rfl)
    refine wp_callF (vals:=#[.slice (some ⟨g,0,none⟩) k c3,.func (.func 73) #[] #[]]) rfl (by simp only[List.map_toArray,List.map_cons,List.map_nil];rw[←h36];rfl) (fun _ _=>rfl) (delT_any (SB S w.heap.size) (w.heap.size+1) g k c3 A w1 (by have:=HGA.out;rw[HK.out] at this;exact this.below (Below.next HD5.out hex)) (by omega)) ?_
    rintro e w' ⟨k',rfl,h1,h2⟩
    exact ⟨_,rfl,_,rfl,⟨k',rfl,h1⟩,h2⟩
   case hend=>
    intro a w1 hdf hsz hex hval hrest
    obtain ⟨k',h37,hrow⟩:∃k',a.tmps.getD 37 undef=.slice (some ⟨g,0,none⟩) k' c3∧_:=hval 5 _ 37 (by omega) rfl rfl
    have h39:TrmS (hide w1 (SR (SB S w.heap.size) (.slice (some ⟨g,0,none⟩) (k+1) c3))) w1.heap.size [x] (a.tmps.getD 39 undef):=hval 7 _ 39 (by omega) rfl rfl
    obtain ⟨o39,l39,c39,h39e⟩:=SlC.form h39
    rw[h39e] at h39
    obtain ⟨f9,ha,hf⟩:=act_spellF [false,false,false,false,false,false,false,false,false,false,false,false,false,false,false,false,false,false,false,false,false,false,false,false,false,false,false,false,false,false,false,false,true,true,true,true,true,true,true,true,false,false,false,false,false,false,false] (by kernel_rfl) hdf hsz hrest
    rw[←hf] at h37 h39e
    subst ha
    have ht:Turned (fun b=>b=g) W5 w1:=(Turned.of_below HD5.out).next hex
    have HRB:=Lib.hid (ht.box HI5.out.rb (fun e=>hga e.symm))
    have HEB:=Lib.hid (ht.box HE5.out (fun e=>hgn e.symm))
    have HBL:=Lib.hid (HI5.out.below.trans (ht.below (fun b hb=>by subst hb;omega) HI5.out.below.size))
    have HROW:=Lib.hid hrow
    have HONE:=Lib.hid h39
    have HXF:=Lib.hid (HX5.out.shown (Shown.turned ht fun b _ hb=>.inr (by subst hb;rfl)) ht.size)
    have hfl:(A.filter fun x=>!Fd.idle x).length≤k:=by rw[←HK.out];exact List.length_filter_le _ _
    clear hval hrest hf hex hdf hsz hrow h39 ht
    simp only[spellF,h37,h39e,List.drop_succ_cons,List.drop_zero]
    go_wp2_with (at_builtin;refine wpList_growTF rfl (.tmp 37) (.tmp 39) rfl (w.heap.size+1) _ _ (A.filter fun x=>!Fd.idle x) [x] rfl HROW.out rfl HONE.out (by simp;omega) ?_)
    intro o9 l9 c9 W9 h1 h2 h3
    have HR9:=Lib.hid (h3.out.box HRB.out (fun e=>hga (by simpa[Value.ownBlock] using e)))
    have HE9:=Lib.hid (h3.out.box HEB.out (fun e=>hgn (by simpa[Value.ownBlock] using e)))
    have HB9:=Lib.hid (HBL.out.trans (h2.out.mono (by omega)))
    have HG9:=Lib.hid h1.out
    have HX9:=Lib.hid (HXF.out.shown (Shown.turned h3.out fun b _ hb=>.inr hb) h3.out.size)
    have hl9:=grownT_len h1.out
    rw[List.length_append] at hl9
    clear h1 h2 h3 HRB HEB HROW HONE HXF
    have r0:=HR9.out.cell 0 rfl
    have r1:=HR9.out.cell 1 rfl
    have r2:=HR9.out.cell 2 rfl
    have r3:=HR9.out.cell 3 rfl
    have k0:=HR9.out.free 0
    have k1:=HR9.out.free 1
    have k2:=HR9.out.free 2
    have k3:=HR9.out.free 3
    have rl:=HR9.out.lt
    by_cases hr:(A.filter fun x=>!Fd.idle x)=[]
    ·have HRT:=Lib.hid (show Fd.seq l=x by rw[HSE.out,if_pos hr])
     have d1:((l9:Int)==1)=true:=by rw[hl9,hr];rfl
     clear hl9
     have e0:=HE9.out.cell 0 rfl
     have e1:=HE9.out.cell 1 rfl
     have e2:=HE9.out.cell 2 rfl
     have e3:=HE9.out.cell 3 rfl
     have el:=HE9.out.lt
     have HBF:=Lib.hid (set4_box HR9.out (.int .i64 x.op) (.int .i64 x.n) (.slice xov xlv xcv) (.slice xot xlt xct))
     have q0:=HBF.out.cell 0 rfl
     have q1:=HBF.out.cell 1 rfl
     have q2:=HBF.out.cell 2 rfl
     have q3:=HBF.out.cell 3 rfl
     have HBB:=Lib.hid (set4_below W9 (b:=w.heap.size) (n:=w.heap.size) (Nat.le_refl _) (.int .i64 x.op) (.int .i64 x.n) (.slice xov xlv xcv) (.slice xot xlt xct))
     go_wp2_with fail
     refine bodyPost_ret (v:=.agg #[.int .i64 x.op,.int .i64 x.n,.slice xov xlv xcv,.slice xot xlt xct]) (by simp[results,Tryz.f39,go_sem,q0,q1,q2,q3]) rfl ?_
     refine ⟨_,_,_,_,_,_,_,_,rfl,?_,HB9.out.trans HBB.out⟩
     rw[HRT.out]
     exact HX9.out.shown (Shown.trans (Shown.turned (set4_turned W9 (S:=fun b=>b=w.heap.size) rfl (.int .i64 x.op) (.int .i64 x.n) (.slice xov xlv xcv) (.slice xot xlt xct)) fun b _ hb=>.inl (.inr hb)) (Shown.less _ fun b _ h=>.inl (.inl h))) (by rw[set4_size];exact Nat.le_refl _)
    ·have HRT:=Lib.hid (show Fd.seq l=.mk 6 0 [] ((A.filter fun x=>!Fd.idle x)++[x]) by rw[HSE.out,if_neg hr])
     have d1:((l9:Int)==1)=false:=by
      have:0<(A.filter fun x=>!Fd.idle x).length:=List.length_pos_iff.2 hr
      rw[hl9];simp;omega
     clear hl9
     have HBF:=Lib.hid (set4_box HR9.out (.int .i64 6) (.int .i64 0) (.slice none 0 0) (.slice o9 l9 c9))
     have q0:=HBF.out.cell 0 rfl
     have q1:=HBF.out.cell 1 rfl
     have q2:=HBF.out.cell 2 rfl
     have q3:=HBF.out.cell 3 rfl
     have HBB:=Lib.hid (set4_below W9 (b:=w.heap.size) (n:=w.heap.size) (Nat.le_refl _) (.int .i64 6) (.int .i64 0) (.slice none 0 0) (.slice o9 l9 c9))
     go_wp2_with fail
     refine bodyPost_ret (v:=.agg #[.int .i64 6,.int .i64 0,.slice none 0 0,.slice o9 l9 c9]) (by simp[results,Tryz.f39,go_sem,q0,q1,q2,q3]) rfl ?_
     refine ⟨_,_,_,_,_,_,_,_,rfl,?_,HB9.out.trans HBB.out⟩
     rw[HRT.out]
     refine trmR_iff.2 ⟨_,_,rfl,by omega,by omega,⟨none,0,0,rfl,rfl,by omega,by omega,rfl,rfl⟩,?_⟩
     exact TrmS.shown HG9.out.rep (Shown.trans (Shown.turned (set4_turned W9 (S:=fun b=>b=w.heap.size) rfl (.int .i64 6) (.int .i64 0) (.slice none 0 0) (.slice o9 l9 c9)) fun b _ hb=>.inr hb) (Shown.less _ fun b _ h=>.inl h)) (by rw[set4_size];exact Nat.le_refl _)
end
end Go.Proofs.YtgbibibmpoekiaaGreatDoor
