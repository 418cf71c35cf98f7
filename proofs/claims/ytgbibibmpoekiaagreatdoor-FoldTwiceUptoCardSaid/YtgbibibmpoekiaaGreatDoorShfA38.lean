/-
  What the proofs lean on: ShY.
-/
import Derived.Test.YtgbibibmpoekiaaGreatDoorShfA11
import Derived.Test.YtgbibibmpoekiaaGreatDoorShfA36
set_option maxRecDepth 100000
set_option maxHeartbeats 16000000
namespace Go.Proofs.YtgbibibmpoekiaaGreatDoor
section
open Go Go.RowKit
def rk (k v:Int):Int:=if -9223372036854775808≤v∧v≤9223372036854775807 then wrap64 (v+k) else v
theorem rk_i64 {k v:Int} (h:I64 v):rk k v=wrap64 (v+k):=if_pos h
theorem wrap_I64 (z:Int):I64 (wrap64 z):=by
 simp[I64,wrap64]
 omega
theorem wrap64_is (z:Int):IntKind.i64.wrap z=wrap64 z:=by
 simp[wrap64,IntKind.wrap,IntKind.bits,IntKind.signed]
 try omega
def S3n (S:Nat→Prop) (a:Nat) (b:Nat):Prop:=S b∨(a≤b∧b<a+3)
structure ShJ (w:World) (S:Nat→Prop) (args:List Value) (o n:Int) (vsl tsl:Value) (lv:List Int) (l:List Trm) (W:World):Prop where
 tb:BoxL W w.heap.size 26 args
 rb:BoxL W (w.heap.size+1) 26 [.int .i64 0,.int .i64 0,.slice none 0 0,.slice none 0 0]
 ob:BoxL W (w.heap.size+2) 26 [.int .i64 o,.int .i64 n,vsl,tsl]
 vrow:W.ownsRow (w.heap.size+3) 3 1 vsl lv.length (lv.map (Value.int .i64))
 row:GrownT 26 W (SR (S3n S w.heap.size) vsl) (w.heap.size+3) l tsl
 below:Below w.heap.size w W
section
variable {w : World} {S : Nat → Prop} {args : List Value} {o n : Int} {vsl tsl : Value} {lv : List Int} {l : List Trm} {W W' : World}
theorem ShJ.keep (h:ShJ w S args o n vsl tsl lv l W) (hb:Below W.heap.size W W'):ShJ w S args o n vsl tsl lv l W':=
 ⟨h.tb.keep hb,h.rb.keep hb,h.ob.keep hb,row_keep h.vrow hb,h.row.below hb,h.below.trans (hb.mono h.below.size)⟩
theorem ShJ.num (h:ShJ w S args o n (.slice none 0 0) (.slice none 0 0) [] [] W) (m:Int):ShJ w S args o m (.slice none 0 0) (.slice none 0 0) [] [] (W.setCell ⟨w.heap.size+2,1,none⟩ (.int .i64 m)):=
 ⟨h.tb.other _ _ (by show w.heap.size≠w.heap.size+2;omega),h.rb.other _ _ (by show w.heap.size+1≠w.heap.size+2;omega),h.ob.set 1 _,World.ownsRow_nil _ _ _ _,GrownT.nil _ (fun b hb=>by rw[World.size_setCell];exact h.row.1 b hb) (by rw[World.size_setCell];exact h.row.2.2.1),h.below.setCell (p:=⟨w.heap.size+2,1,none⟩) (by show w.heap.size≤w.heap.size+2;omega) _⟩
theorem ShJ.varr (h:ShJ w S args o n vsl (.slice none 0 0) lv [] W) {x:Int} {v':Value} (hown:W'.ownsRow (w.heap.size+3) 3 1 v' (lv++[x]).length ((lv++[x]).map (Value.int .i64))) (hg:W.grownBy W' vsl.ownBlock) (hS:∀b,S b→b<w.heap.size) :
  ShJ w S args o n v' (.slice none 0 0) (lv++[x]) [] (W'.setCell ⟨w.heap.size+2,2,none⟩ v'):=by
 have ht:Turned (fun b=>vsl.ownBlock=some b) W W':=Turned.grown hg fun b hb=>hb
 have hlo:∀b,vsl.ownBlock=some b→w.heap.size+3≤b:=fun b hb=>(h.vrow.lt b hb).1
 have hz:=h.ob.lt
 have hz2:=ht.size
 have t2:Turned (fun b=>b=w.heap.size+2) W' (W'.setCell ⟨w.heap.size+2,2,none⟩ v'):=Turned.set (S:=fun b=>b=w.heap.size+2) _ ⟨w.heap.size+2,2,none⟩ _ rfl
 refine ⟨(ht.box h.tb fun e=>by have:=hlo _ e;omega).other _ _ (by show w.heap.size≠w.heap.size+2;omega),(ht.box h.rb fun e=>by have:=hlo _ e;omega).other _ _ (by show w.heap.size+1≠w.heap.size+2;omega),(ht.box h.ob fun e=>by have:=hlo _ e;omega).set 2 _,row_turned hown t2 (fun g hg e=>by have:=(hown.lt g hg).1;omega),GrownT.nil _ (fun b hb=>?_) (by rw[World.size_setCell];omega),(h.below.trans (ht.below (fun b hb=>by have:=hlo b hb;omega) h.below.size)).setCell (p:=⟨w.heap.size+2,2,none⟩) (by show w.heap.size≤w.heap.size+2;omega) _⟩
 rw[World.size_setCell]
 rcases hb with (hb | hb) | hb
 ·have:=hS b hb;have:=h.below.size;omega
 ·omega
 ·exact (hown.lt b hb).2
theorem ShJ.part (h:ShJ w S args o n vsl tsl lv l W) {y:Trm} {tsl':Value} (hg:GrownT 26 W' (SR (S3n S w.heap.size) vsl) (w.heap.size+3) (l++[y]) tsl') (ht:Turned (fun b=>tsl.ownBlock=some b) W W'):ShJ w S args o n vsl tsl' lv (l++[y]) (W'.setCell ⟨w.heap.size+2,3,none⟩ tsl'):=by
 have hlo:∀b,tsl.ownBlock=some b→w.heap.size+3≤b:=fun b hb=>(h.row.block hb).1
 have t2:Turned (fun b=>b=w.heap.size+2) W' (W'.setCell ⟨w.heap.size+2,3,none⟩ tsl'):=Turned.set (S:=fun b=>b=w.heap.size+2) _ ⟨w.heap.size+2,3,none⟩ _ rfl
 refine ⟨(ht.box h.tb fun e=>by have:=hlo _ e;omega).other _ _ (by show w.heap.size≠w.heap.size+2;omega),(ht.box h.rb fun e=>by have:=hlo _ e;omega).other _ _ (by show w.heap.size+1≠w.heap.size+2;omega),(ht.box h.ob fun e=>by have:=hlo _ e;omega).set 3 _,row_turned (row_turned h.vrow ht fun g hg e=>h.row.apart g e (.inr hg)) t2 (fun g hg e=>by have:=(h.vrow.lt g hg).1;omega),hg.turned t2 (fun b _ e=>.inl (.inr (by omega))),(h.below.trans (ht.below (fun b hb=>by have:=hlo b hb;omega) h.below.size)).setCell (p:=⟨w.heap.size+2,3,none⟩) (by show w.heap.size≤w.heap.size+2;omega) _⟩
end
def SvR (z0:Nat) (pv vsl qv vs:Value) (j:Nat) (ep:Value) (x k:Int) (i:Nat) (v:Value) (W:World):Prop:=match i with
 | 0=>v=pv
 | 1=>v=vsl
 | 2=>v=qv
 | 3=>v=vs
 | 4=>v=.int .i64 j
 | 5=>v=ep
 | 6=>v=.int .i64 x
 | 7=>v=.int .i64 k
 | 8=>v=.int .i64 (wrap64 (x+k))
 | 9=>∃b,v=.slice (some ⟨b,0,none⟩) 1 1∧z0≤b∧BoxL W b 3 [.int .i64 (wrap64 (x+k))]
 | _=>True
theorem svR_kept {z0:Nat} {pv vsl qv vs:Value} {j:Nat} {ep:Value} {x k:Int}:∀i v A B,SvR z0 pv vsl qv vs j ep x k i v A→Below A.heap.size A B→SvR z0 pv vsl qv vs j ep x k i v B:=fun i v A B h hb=>by
 match i with
 | 0=>exact h
 | 1=>exact h
 | 2=>exact h
 | 3=>exact h
 | 4=>exact h
 | 5=>exact h
 | 6=>exact h
 | 7=>exact h
 | 8=>exact h
 | 9=>
  obtain ⟨b,h1,h2,h3⟩:=h
  exact ⟨b,h1,h2,h3.keep hb⟩
 | i+10=>trivial
def StR (S':Nat→Prop) (pv tsl qv ts:Value) (j:Nat) (ep yv:Value) (y:Trm) (k:Int) (i:Nat) (v:Value) (W:World):Prop:=match i with
 | 0=>v=pv
 | 1=>v=tsl
 | 2=>v=qv
 | 3=>v=ts
 | 4=>v=.int .i64 j
 | 5=>v=ep
 | 6=>v=yv
 | 7=>v=.int .i64 k
 | 8=>TmV S' y v W
 | 9=>TrmS (hide W S') W.heap.size [y] v
 | _=>True
theorem stR_kept {S':Nat→Prop} {pv tsl qv ts:Value} {j:Nat} {ep yv:Value} {y:Trm} {k:Int}:∀i v A B,StR S' pv tsl qv ts j ep yv y k i v A→Below A.heap.size A B→StR S' pv tsl qv ts j ep yv y k i v B:=fun i v A B h hb=>by
 match i with
 | 0=>exact h
 | 1=>exact h
 | 2=>exact h
 | 3=>exact h
 | 4=>exact h
 | 5=>exact h
 | 6=>exact h
 | 7=>exact h
 | 8=>exact TmV.shown h (Shown.below hb) hb.size
 | 9=>exact TrmS.shown h (Shown.below hb) hb.size
 | i+10=>trivial
theorem map_snoc {r:Int→Int} {v:List Int} {j:Nat} {x:Int} (h:v[j]?=some x):(v.take (j+1)).map r=(v.take j).map r++[r x]:=by
 rw[List.take_add_one,h];simp
theorem shiftL_snoc {r:Int→Int} {t:List Trm} {j:Nat} {x:Trm} (h:t[j]?=some x):Trm.shiftL r (t.take (j+1))=Trm.shiftL r (t.take j)++[Trm.shift r x]:=by
 rw[Trm.shiftL_eq,Trm.shiftL_eq,List.take_add_one,h];simp
theorem rshift_any (k:Int):∀(x:Trm) (S:Nat→Prop) (c0 c1 c2 c3:Value) (w:World),TrmR (hide w S) w.heap.size x [c0,c1,c2,c3]→(∀b,S b→b<w.heap.size)→x.all≤100000→x.bnd.length≤4000000 →
  Calls Tryz.prog 17 #[.agg #[c0,c1,c2,c3],.int .i64 k] w (TmPost S (x.shift (rk k)) w):=by
 intro x
 induction x using Trm.ind with
 | _ o n v t ih=>
 intro S c0 c1 c2 c3 w hx hS hall hbnd
 obtain ⟨vs,ts,he,ho,hn,hv,ht⟩:=trmR_iff.1 hx
 simp only[List.cons.injEq,and_true] at he
 obtain ⟨rfl,rfl,rfl,rfl⟩:=he
 obtain ⟨ov,lv,cv,rfl⟩:=hv.form
 obtain ⟨ot,lt,ct,rfl⟩:=SlC.form ht
 have HLT:=Lib.hid (SlC.lens (show SlC (hide w S) w.heap.size 4 (TrmR (hide w S) w.heap.size) t (.slice ot lt ct) from ht)).1
 have HLV:=Lib.hid (SlC.lens hv).1
 have hlt:lt≤100000:=by
  have h1:=HLT.out
  have h3:=Trm.allL_length t
  rw[Trm.all] at hall
  omega
 have hlv:lv≤4000000:=by
  have h1:=HLV.out
  rw[Trm.bnd,List.length_append] at hbnd
  omega
 obtain ⟨W3,hW3⟩:∃W3,((w.alloc (.cells #[.int .i64 o,.int .i64 n,.slice ov lv cv,.slice ot lt ct] 26)).alloc (.cells #[.int .i64 0,.int .i64 0,.slice none 0 0,.slice none 0 0] 26)).alloc (.cells #[.int .i64 o,.int .i64 n,.slice none 0 0,.slice none 0 0] 26)=W3:=⟨_,rfl⟩
 have HI3:=Lib.hid (show ShJ w S [.int .i64 o,.int .i64 n,.slice ov lv cv,.slice ot lt ct] o n (.slice none 0 0) (.slice none 0 0) [] [] W3 from by
  have hz:W3.heap.size=w.heap.size+3:=by rw[←hW3];simp
  refine ⟨?_,?_,?_,World.ownsRow_nil _ _ _ _,GrownT.nil _ (fun b hb=>?_) (by omega),?_⟩
  ·rw[←hW3];exact ((BoxL.new rfl _ _).alloc _).alloc _
  ·rw[←hW3];exact (BoxL.new (by simp) _ _).alloc _
  ·rw[←hW3];exact BoxL.new (by simp) _ _
  ·rcases hb with (hb | hb) | hb
   ·have:=hS b hb;omega
   ·omega
   ·cases hb
  ·rw[←hW3];exact ((Below.one w _).trans ((Below.one _ _).mono (by simp))).trans ((Below.one _ _).mono (by simp;omega)))
 have HV:=Lib.hid hv
 have HT:=Lib.hid ht
 have HO:=Lib.hid (show I64 o from ho)
 have HN:=Lib.hid (show I64 n from hn)
 have HVI:=Lib.hid (SlC.i64 hv)
 have IH:=Lib.hid ih
 have HS:=Lib.hid hS
 have HALL:=Lib.hid hall
 have HBND:=Lib.hid hbnd
 have HW3:=Lib.hid hW3
 clear hx hS hall hbnd ho hn hv ht ih hW3
 go_enter Tryz.func17,Tryz.ntmps17
 go_upto_region 2 with fail
 rw[HW3.out]
 clear HW3
 obtain ⟨m,hm⟩:∃m,(if o=1∨o=2∨o=14 then rk k n else n)=m:=⟨_,rfl⟩
 have HM:=Lib.hid hm
 have HMI:=Lib.hid (show I64 m from by
  rw[←hm]
  split
  ·rw[rk_i64 HN.out];exact wrap_I64 _
  ·exact HN.out)
 obtain ⟨q,hq⟩:∃q,(o==1 || (o==2 || o==14))=q:=⟨_,rfl⟩
 have HQ:=Lib.hid (show (o=1∨o=2∨o=14)↔q=true from by rw[←hq];simp)
 go_cut [25] (fun c wx=>c=.bool q∧W3=wx)
 case first=>as_aux_lemma=>
  have x0:=HI3.out.tb.cell 0 rfl
  have xl:=HI3.out.tb.lt
  by_cases h1:o=1
  ·subst h1
   obtain rfl:true=q:=hq
   go_wp2_with fail
   go_meet
   exact ⟨rfl,rfl⟩
  have f1:(o==1)=false:=by simpa using h1
  by_cases h2:o=2
  ·subst h2
   obtain rfl:true=q:=hq
   go_wp2_with fail
   go_meet
   exact ⟨rfl,rfl⟩
  have f2:(o==2)=false:=by simpa using h2
  have hq':(o==14)=q:=by rw[←hq,f1,f2];rfl
  clear hq hm
  go_wp2_with fail
  go_meet
  exact ⟨rfl,rfl⟩
 case rest=>
  obtain ⟨rfl,rfl⟩:=hcut
  clear hq hm
  cases q with
  | true=>
   have h1:=HI3.out.tb.cell 1 rfl
   have hl:=HI3.out.tb.lt
   have g1:=HI3.out.ob.cell 1 rfl
   have gl:=HI3.out.ob.lt
   have gf:=HI3.out.ob.free 1
   have hmm:wrap64 (n+k)=m:=by rw[←HM.out,if_pos (HQ.out.2 rfl),rk_i64 HN.out]
   go_upto_region 4 with fail
   obtain ⟨W4,hW4⟩:∃W4,W3.setCell ⟨w.heap.size+1+1,1,none⟩ (.int .i64 m)=W4:=⟨_,rfl⟩
   have HI4:=Lib.hid (show ShJ w S [.int .i64 o,.int .i64 n,.slice ov lv cv,.slice ot lt ct] o m (.slice none 0 0) (.slice none 0 0) [] [] W4 from by rw[←hW4];exact HI3.out.num m)
   rw[hW4]
   clear hW4 h1 hl g1 gl gf hmm HI3
   have x2:=HI4.out.tb.cell 2 rfl
   have xl:=HI4.out.tb.lt
   go_wp2_with fail
   clear x2 xl
   go_loopg [6] lv (fun g i wr=>∃(j:Nat) (vsl:Value),g=lv-j∧j≤lv∧i=.int .i64 j∧Hid (ShJ w S [.int .i64 o,.int .i64 n,.slice ov lv cv,.slice ot lt ct] o m vsl (.slice none 0 0) ((v.take j).map (rk k)) [] wr))
   case atStart=>exact ⟨0,.slice none 0 0,rfl,by omega,rfl,HI4⟩
   case round=>
    obtain ⟨j,vsl,rfl,hj,rfl,HI⟩:=hrel
    clear HI4
    have x2:=HI.out.tb.cell 2 rfl
    have xl:=HI.out.tb.lt
    by_cases hjl:j<lv
    ·obtain ⟨z,hz⟩:∃z,v[j]?=some z:=⟨_,List.getElem?_eq_getElem (by rw[←HLV.out];exact hjl)⟩
     obtain ⟨b1,o1,e1,ho1,_,_,hc1,hi1,_⟩:=SlC.at HV.out (Below.refl _ _) hz
     subst ho1 hi1
     have d0:=hide_some (hc1 0 _ rfl)
     simp only[Nat.add_zero,Nat.mul_one] at d0
     have l0:=cell_lt d0.2
     have e0:=(HI.out.below.cell (p:=⟨b1,o1+j,none⟩) l0).trans d0.2
     have el:=Nat.lt_of_lt_of_le l0 HI.out.below.size
     have HSN:=Lib.hid (map_snoc (r:=rk k) hz)
     have HZI:=Lib.hid (HVI.out z (List.mem_of_getElem? hz))
     rw[rk_i64 HZI.out] at HSN
     clear hc1 hz d0 l0
     go_upto_region 7 with fail
     have HD5:=Lib.hid ((Below.refl wr.heap.size wr).drew)
     have HLN:=Lib.hid (show ((v.take j).map (rk k)).length≤4000000 from by simp;omega)
     refine wp_region_newF 10 (SvR wr.heap.size (.pointer (some ⟨w.heap.size+2,2,none⟩)) vsl (.pointer (some ⟨w.heap.size,2,none⟩)) (.slice (some ⟨b1,o1,none⟩) lv cv) j (.pointer (some ⟨b1,o1+j,none⟩)) z k) (by kernel_rfl) (by kernel_rfl) (fun i v A B h _ hb=>svR_kept i v A B h hb) ?hops ?hend
     case hops=>
      intro i q8 hi ho a w1 hex hdep hrest
      have hbw:Below wr.heap.size wr w1:=HD5.out.trans hex
      have hi1:=HI.out.keep hbw
      match i,hi with
      | 0,_=>
       cases ho
       have h5:a.tmps.getD 5 undef=.pointer (some ⟨w.heap.size+1+1,0,none⟩):=hrest.at 5 (by kernel_rfl)
       exact wp_valF (v:=.pointer (some ⟨w.heap.size+2,2,none⟩)) (w':=w1) (by go_simp) ⟨_,rfl,rfl,Below.refl _ _⟩
      | 1,_=>
       cases ho
       have h38:a.tmps.getD 38 undef=.pointer (some ⟨w.heap.size+2,2,none⟩):=hdep.at 0 38 (by kernel_rfl)
       have c2:=hi1.ob.cell 2 rfl
       have cl:=hi1.ob.lt
       exact wp_valF (v:=vsl) (w':=w1) (by go_simp) ⟨_,rfl,rfl,Below.refl _ _⟩
      | 2,_=>
       cases ho
       have h2:a.tmps.getD 2 undef=.pointer (some ⟨w.heap.size,0,none⟩):=hrest.at 2 (by kernel_rfl)
       exact wp_valF (v:=.pointer (some ⟨w.heap.size,2,none⟩)) (w':=w1) (by go_simp) ⟨_,rfl,rfl,Below.refl _ _⟩
      | 3,_=>
       cases ho
       have h40:a.tmps.getD 40 undef=.pointer (some ⟨w.heap.size,2,none⟩):=hdep.at 2 40 (by kernel_rfl)
       have c2:=hi1.tb.cell 2 rfl
       have cl:=hi1.tb.lt
       exact wp_valF (v:=.slice (some ⟨b1,o1,none⟩) lv cv) (w':=w1) (by go_simp) ⟨_,rfl,rfl,Below.refl _ _⟩
      | 4,_=>
       cases ho
       exact wp_moveF rfl ⟨_,rfl,hrest.at 6 (by kernel_rfl),Below.refl _ _⟩
      | 5,_=>
       cases ho
       have h41:a.tmps.getD 41 undef=.slice (some ⟨b1,o1,none⟩) lv cv:=hdep.at 3 41 (by kernel_rfl)
       have h42:a.tmps.getD 42 undef=.int .i64 j:=hdep.at 4 42 (by kernel_rfl)
       exact wp_valF (v:=.pointer (some ⟨b1,o1+j,none⟩)) (w':=w1) (by go_simp) ⟨_,rfl,rfl,Below.refl _ _⟩
      | 6,_=>
       cases ho
       have h43:a.tmps.getD 43 undef=.pointer (some ⟨b1,o1+j,none⟩):=hdep.at 5 43 (by kernel_rfl)
       have c0:=(hbw.cell (p:=⟨b1,o1+j,none⟩) el).trans e0
       have cl:=Nat.lt_of_lt_of_le el hbw.size
       exact wp_valF (v:=.int .i64 z) (w':=w1) (by go_simp) ⟨_,rfl,rfl,Below.refl _ _⟩
      | 7,_=>
       cases ho
       exact wp_moveF rfl ⟨_,rfl,hrest.at 1 (by kernel_rfl),Below.refl _ _⟩
      | 8,_=>
       cases ho
       have h44:a.tmps.getD 44 undef=.int .i64 z:=hdep.at 6 44 (by kernel_rfl)
       have h45:a.tmps.getD 45 undef=.int .i64 k:=hdep.at 7 45 (by kernel_rfl)
       exact wp_valF (v:=.int .i64 (wrap64 (z+k))) (w':=w1) (by go_simp;exact wrap64_is _) ⟨_,rfl,rfl,Below.refl _ _⟩
      | 9,_=>
       cases ho
       have h46:a.tmps.getD 46 undef=.int .i64 (wrap64 (z+k)):=hdep.at 8 46 (by kernel_rfl)
       exact wp_bsR rfl h46 (run_bsI w1 (wrap64 (z+k))) ⟨_,rfl,⟨_,rfl,hbw.size,BoxL.new rfl _ _⟩,Below.one _ _⟩
      | i+10,hi=>exact absurd hi (by omega)
     case hend=>
      intro a w1 hdf hsz hex hval hrest
      have h39:a.tmps.getD 39 undef=vsl:=hval 1 _ 39 (by omega) rfl rfl
      obtain ⟨b9,h47,hb9,hbx⟩:SvR wr.heap.size (.pointer (some ⟨w.heap.size+2,2,none⟩)) vsl (.pointer (some ⟨w.heap.size,2,none⟩)) (.slice (some ⟨b1,o1,none⟩) lv cv) j (.pointer (some ⟨b1,o1+j,none⟩)) z k 9 (a.tmps.getD 47 undef) w1:=hval 9 _ 47 (by omega) rfl rfl
      obtain ⟨f9,ha,hf⟩:=act_spellF [false,false,false,false,false,false,false,false,false,false,false,false,false,false,false,false,false,false,false,false,false,false,false,false,false,false,false,false,false,false,false,false,false,false,false,false,false,false,true,true,true,true,true,true,true,true,true,true,false,false,false,false,false,false,false,false,false,false,false,false,false,false,false,false,false,false,false,false,false,false] (by kernel_rfl) hdf hsz hrest
      rw[←hf] at h39 h47
      subst ha
      have HI8:=Lib.hid (HI.out.keep (HD5.out.trans hex))
      have HSL:=Lib.hid (show SlC w1 w1.heap.size 1 IntR [wrap64 (z+k)] (.slice (some ⟨b9,0,none⟩) 1 1) from ⟨_,1,1,rfl,rfl,by omega,by omega,fun _=>⟨rfl,hbx.lt⟩,fun i x hx=>by
       cases i with
       | zero=>
        obtain rfl:wrap64 (z+k)=x:=by simpa using hx
        exact ⟨[.int .i64 (wrap64 (z+k))],rfl,fun q u hq=>by have:=hbx.cell q hq;simpa using this,rfl,(wrap_I64 _).1,(wrap_I64 _).2⟩
       | succ i=>simp at hx⟩)
      clear hval hrest hf hdf hsz hex hbx x2 xl e0 el
      simp only[spellF,h39,h47,List.drop_succ_cons,List.drop_zero]
      refine wpList_append_ints rfl (.tmp 39) (.tmp 47) rfl (w.heap.size+3) w1.heap.size vsl ((v.take j).map (rk k)) [wrap64 (z+k)] rfl HI8.out.vrow (some ⟨b9,0,none⟩) 1 1 rfl HSL.out (by have:=HLN.out;simp only[List.length_singleton];omega) HI8.out.row.2.2.1 ?_
      intro v' w2 hown hgr
      have HI9:=Lib.hid (HI8.out.varr hown hgr HS.out)
      have hobx:=(Turned.grown (S:=fun b=>vsl.ownBlock=some b) hgr fun b hb=>hb).box HI8.out.ob (fun e=>by have:=(HI8.out.vrow.lt _ e).1;omega)
      obtain ⟨o9,l9,c9,rfl⟩:∃o' l' c',v'=.slice o' l' c':=by
       rcases hown.2 with ⟨h,_⟩ | ⟨g,cap,cur,h,_⟩
       ·exact ⟨_,_,_,h⟩
       ·exact ⟨_,_,_,h⟩
      have c2:=hobx.cell 2 rfl
      have cz:=hobx.free 2
      have cl:=hobx.lt
      clear hown hgr hobx
      go_wp2_with fail
      go_roundg (lv-(j+1))
      case measure=>omega
      case rel=>exact ⟨j+1,.slice o9 l9 c9,rfl,by omega,by go_num,by rw[HSN.out];exact HI9⟩
    ·obtain rfl:lv=j:=by omega
     have hvv:(v.take lv).map (rk k)=v.map (rk k):=by rw[List.take_of_length_le (by rw[←HLV.out];exact Nat.le_refl _)]
     rw[hvv] at HI
     obtain ⟨ov5,lv5,cv5,rfl⟩:∃o' l' c',vsl=.slice o' l' c':=by
      rcases HI.out.vrow.2 with ⟨h,_⟩ | ⟨g,cap,cur,h,_⟩
      ·exact ⟨_,_,_,h⟩
      ·exact ⟨_,_,_,h⟩
     obtain ⟨W5,rfl⟩:∃W5,W5=wr:=⟨_,rfl⟩
     have HI5:=HI
     clear hvv HI
     go_upto_region 8 with fail
     clear x2 xl
     have x3:=HI5.out.tb.cell 3 rfl
     have xl:=HI5.out.tb.lt
     go_wp2_with fail
     clear x3 xl
     go_loopg [7] lt (fun g i wr=>∃(j:Nat) (tsl:Value),g=lt-j∧j≤lt∧i=.int .i64 j∧Hid (ShJ w S [.int .i64 o,.int .i64 n,.slice ov lv cv,.slice ot lt ct] o m (.slice ov5 lv5 cv5) tsl (v.map (rk k)) (Trm.shiftL (rk k) (t.take j)) wr))
     case atStart=>exact ⟨0,.slice none 0 0,rfl,by omega,rfl,HI5⟩
     case round=>
      obtain ⟨j,tsl,rfl,hj,rfl,HI⟩:=hrel
      clear HI5
      have x3:=HI.out.tb.cell 3 rfl
      have xl:=HI.out.tb.lt
      by_cases hjl:j<lt
      ·obtain ⟨y,hy⟩:∃y,t[j]?=some y:=⟨_,List.getElem?_eq_getElem (by rw[←HLT.out];exact hjl)⟩
       have hSR:∀b,SR (SR (S3n S w.heap.size) (.slice ov5 lv5 cv5)) tsl b→S b∨w.heap.size≤b:=fun b hb=>by
        rcases hb with ((hb | hb) | hb) | hb
        ·exact .inl hb
        ·exact .inr hb.1
        ·have:=(HI.out.vrow.lt b hb).1;exact .inr (by omega)
        ·have:=(HI.out.row.block hb).1;exact .inr (by omega)
       obtain ⟨eb,eo,es,he,_,hcl,hcell,hir⟩:=SlC.at (TrmS.shown HT.out (shown_more HI.out.below hSR) HI.out.below.size) (Below.refl _ _) hy
       subst he
       obtain ⟨oy,ny,ky,oz,nz,kz,rfl,_,_,_,_⟩:=trmR_form hir
       have e0:=(hide_some (hcell 0 _ rfl)).2
       have e1:=(hide_some (hcell 1 _ rfl)).2
       have e2:=(hide_some (hcell 2 _ rfl)).2
       have e3:=(hide_some (hcell 3 _ rfl)).2
       simp only[Nat.add_zero] at e0
       have el:=cell_lt e0
       have HMEM:=Lib.hid (List.mem_of_getElem? hy)
       have HSN:=Lib.hid (shiftL_snoc (r:=rk k) hy)
       have hSlt:∀b,SR (SR (S3n S w.heap.size) (.slice ov5 lv5 cv5)) tsl b→b<wr.heap.size:=fun b hb=>hb.elim (HI.out.row.1 b) fun hb=>(HI.out.row.block hb).2
       have HCALL:=Lib.hid (fun W (hb:Below wr.heap.size wr W)=>IH.out y HMEM.out (SR (SR (S3n S w.heap.size) (.slice ov5 lv5 cv5)) tsl) _ _ _ _ W (hir.shown (Shown.below hb) hb.size) (fun b h=>Nat.lt_of_lt_of_le (hSlt b h) hb.size) (by have:=Trm.allL_mem HMEM.out;have:=HALL.out;rw[Trm.all] at this;omega) (by
        have h1:y.bnd.length≤(Trm.bndL t).length:=Fd.count_len _ _ fun a=>Fd.bnd_mem a HMEM.out
        have:=HBND.out
        rw[Trm.bnd,List.length_append] at this
        omega))
       have HSLT:=Lib.hid hSlt
       have HLN:=Lib.hid (show (Trm.shiftL (rk k) (t.take j)).length≤100000 from by rw[Trm.shiftL_eq];simp;omega)
       clear hir hcell hy hcl hSR hSlt
       go_upto_region 11 with fail
       have HD5:=Lib.hid ((Below.refl wr.heap.size wr).drew)
       refine wp_region_newF 10 (StR (SR (SR (S3n S w.heap.size) (.slice ov5 lv5 cv5)) tsl) (.pointer (some ⟨w.heap.size+2,3,none⟩)) tsl (.pointer (some ⟨w.heap.size,3,none⟩)) (.slice (some ⟨eb,eo,none⟩) lt ct) j (.pointer (some ⟨eb,eo+j*4,none⟩)) (.agg #[.int .i64 y.op,.int .i64 y.n,.slice oy ny ky,.slice oz nz kz]) (Trm.shift (rk k) y) k) (by kernel_rfl) (by kernel_rfl) (fun i v A B h _ hb=>stR_kept i v A B h hb) ?hops ?hend
       case hops=>
        intro i q8 hi ho a w1 hex hdep hrest
        have hbw:Below wr.heap.size wr w1:=HD5.out.trans hex
        have hi1:=HI.out.keep hbw
        match i,hi with
        | 0,_=>
         cases ho
         have h5:a.tmps.getD 5 undef=.pointer (some ⟨w.heap.size+1+1,0,none⟩):=hrest.at 5 (by kernel_rfl)
         exact wp_valF (v:=.pointer (some ⟨w.heap.size+2,3,none⟩)) (w':=w1) (by go_simp) ⟨_,rfl,rfl,Below.refl _ _⟩
        | 1,_=>
         cases ho
         have h57:a.tmps.getD 57 undef=.pointer (some ⟨w.heap.size+2,3,none⟩):=hdep.at 0 57 (by kernel_rfl)
         have c3:=hi1.ob.cell 3 rfl
         have cl:=hi1.ob.lt
         exact wp_valF (v:=tsl) (w':=w1) (by go_simp) ⟨_,rfl,rfl,Below.refl _ _⟩
        | 2,_=>
         cases ho
         have h2:a.tmps.getD 2 undef=.pointer (some ⟨w.heap.size,0,none⟩):=hrest.at 2 (by kernel_rfl)
         exact wp_valF (v:=.pointer (some ⟨w.heap.size,3,none⟩)) (w':=w1) (by go_simp) ⟨_,rfl,rfl,Below.refl _ _⟩
        | 3,_=>
         cases ho
         have h59:a.tmps.getD 59 undef=.pointer (some ⟨w.heap.size,3,none⟩):=hdep.at 2 59 (by kernel_rfl)
         have c3:=hi1.tb.cell 3 rfl
         have cl:=hi1.tb.lt
         exact wp_valF (v:=.slice (some ⟨eb,eo,none⟩) lt ct) (w':=w1) (by go_simp) ⟨_,rfl,rfl,Below.refl _ _⟩
        | 4,_=>
         cases ho
         exact wp_moveF rfl ⟨_,rfl,hrest.at 7 (by kernel_rfl),Below.refl _ _⟩
        | 5,_=>
         cases ho
         have h60:a.tmps.getD 60 undef=.slice (some ⟨eb,eo,none⟩) lt ct:=hdep.at 3 60 (by kernel_rfl)
         have h61:a.tmps.getD 61 undef=.int .i64 j:=hdep.at 4 61 (by kernel_rfl)
         exact wp_valF (v:=.pointer (some ⟨eb,eo+j*4,none⟩)) (w':=w1) (by go_simp) ⟨_,rfl,rfl,Below.refl _ _⟩
        | 6,_=>
         cases ho
         have h62:a.tmps.getD 62 undef=.pointer (some ⟨eb,eo+j*4,none⟩):=hdep.at 5 62 (by kernel_rfl)
         have c0:=(hbw.cell (p:=⟨eb,eo+j*4,none⟩) el).trans e0
         have c1:=(hbw.cell (p:=⟨eb,eo+j*4+1,none⟩) el).trans e1
         have c2:=(hbw.cell (p:=⟨eb,eo+j*4+2,none⟩) el).trans e2
         have c3:=(hbw.cell (p:=⟨eb,eo+j*4+3,none⟩) el).trans e3
         have cl:=Nat.lt_of_lt_of_le el hbw.size
         exact wp_valF (v:=.agg #[.int .i64 y.op,.int .i64 y.n,.slice oy ny ky,.slice oz nz kz]) (w':=w1) (by go_simp) ⟨_,rfl,rfl,Below.refl _ _⟩
        | 7,_=>
         cases ho
         exact wp_moveF rfl ⟨_,rfl,hrest.at 1 (by kernel_rfl),Below.refl _ _⟩
        | 8,_=>
         cases ho
         have h63:a.tmps.getD 63 undef=.agg #[.int .i64 y.op,.int .i64 y.n,.slice oy ny ky,.slice oz nz kz]:=hdep.at 6 63 (by kernel_rfl)
         have h64:a.tmps.getD 64 undef=.int .i64 k:=hdep.at 7 64 (by kernel_rfl)
         refine wp_callF (vals:=#[.agg #[.int .i64 y.op,.int .i64 y.n,.slice oy ny ky,.slice oz nz kz],.int .i64 k]) rfl (by simp only[List.map_toArray,List.map_cons,List.map_nil];rw[←h63,←h64];rfl) (fun _ _=>rfl) (HCALL.out w1 hbw) ?_
         intro e w' h
         obtain ⟨v,rfl,h1,h2⟩:=h.val
         exact ⟨v,rfl,v,rfl,h1,h2⟩
        | 9,_=>
         cases ho
         exact wp_bsT rfl (hdep.at 8 65 (by kernel_rfl)) (fun b hb=>Nat.lt_of_lt_of_le (HSLT.out b hb) hbw.size) fun v w' h1 h2=>⟨v,rfl,h1,h2⟩
        | i+10,hi=>exact absurd hi (by omega)
       case hend=>
        intro a w1 hdf hsz hex hval hrest
        have h58:a.tmps.getD 58 undef=tsl:=hval 1 _ 58 (by omega) rfl rfl
        have hs66:TrmS (hide w1 (SR (SR (S3n S w.heap.size) (.slice ov5 lv5 cv5)) tsl)) w1.heap.size [Trm.shift (rk k) y] (a.tmps.getD 66 undef):=hval 9 _ 66 (by omega) rfl rfl
        obtain ⟨u66,h66⟩:∃u,a.tmps.getD 66 undef=u:=⟨_,rfl⟩
        rw[h66] at hs66
        obtain ⟨f9,ha,hf⟩:=act_spellF [false,false,false,false,false,false,false,false,false,false,false,false,false,false,false,false,false,false,false,false,false,false,false,false,false,false,false,false,false,false,false,false,false,false,false,false,false,false,false,false,false,false,false,false,false,false,false,false,false,false,false,false,false,false,false,false,false,true,true,true,true,true,true,true,true,true,true,false,false,false] (by kernel_rfl) hdf hsz hrest
        rw[←hf] at h58 h66
        subst ha
        have HI8:=Lib.hid (HI.out.keep (HD5.out.trans hex))
        have HS8:=Lib.hid hs66
        clear hval hrest hf hdf hsz hex hs66 x3 xl e0 e1 e2 e3 el
        simp only[spellF,h58,h66,List.drop_succ_cons,List.drop_zero]
        refine wpList_growTF rfl (.tmp 58) (.tmp 66) rfl (w.heap.size+3) tsl u66 (Trm.shiftL (rk k) (t.take j)) [Trm.shift (rk k) y] rfl HI8.out.row rfl HS8.out (by have:=HLN.out;simp only[List.length_singleton];omega) ?_
        intro o9 l9 c9 w9 m1 _ m2
        have HI9:=Lib.hid (HI8.out.part m1.out m2.out)
        have hobx:=m2.out.box HI8.out.ob (fun e=>by have:=(HI8.out.row.block e).1;omega)
        have c3:=hobx.cell 3 rfl
        have cz:=hobx.free 3
        have cl:=hobx.lt
        clear hobx m1 m2
        go_wp2_with fail
        go_roundg (lt-(j+1))
        case measure=>omega
        case rel=>exact ⟨j+1,.slice o9 l9 c9,rfl,by omega,by go_num,by rw[HSN.out];exact HI9⟩
      ·obtain rfl:lt=j:=by omega
       have htt:t.take lt=t:=List.take_of_length_le (by rw[←HLT.out];exact Nat.le_refl _)
       rw[htt] at HI
       obtain ⟨ot5,lt5,ct5,rfl,hd1,hd2⟩:=HI.out.row.form
       clear hd1 hd2 htt
       have e0:=HI.out.ob.cell 0 rfl
       have e1:=HI.out.ob.cell 1 rfl
       have e2:=HI.out.ob.cell 2 rfl
       have e3:=HI.out.ob.cell 3 rfl
       have el:=HI.out.ob.lt
       have r0:=HI.out.rb.cell 0 rfl
       have r1:=HI.out.rb.cell 1 rfl
       have r2:=HI.out.rb.cell 2 rfl
       have r3:=HI.out.rb.cell 3 rfl
       have k0:=HI.out.rb.free 0
       have k1:=HI.out.rb.free 1
       have k2:=HI.out.rb.free 2
       have k3:=HI.out.rb.free 3
       have rl:=HI.out.rb.lt
       have HBF:=Lib.hid (set4_box HI.out.rb (.int .i64 o) (.int .i64 m) (.slice ov5 lv5 cv5) (.slice ot5 lt5 ct5))
       have q0:=HBF.out.cell 0 rfl
       have q1:=HBF.out.cell 1 rfl
       have q2:=HBF.out.cell 2 rfl
       have q3:=HBF.out.cell 3 rfl
       have HBB:=Lib.hid (set4_below wr (b:=w.heap.size+1) (n:=w.heap.size) (by omega) (.int .i64 o) (.int .i64 m) (.slice ov5 lv5 cv5) (.slice ot5 lt5 ct5))
       have HT4:=Lib.hid (set4_turned wr (S:=fun b=>b=w.heap.size+1) (b:=w.heap.size+1) rfl (.int .i64 o) (.int .i64 m) (.slice ov5 lv5 cv5) (.slice ot5 lt5 ct5))
       go_wp2_with fail
       refine bodyPost_ret (v:=.agg #[.int .i64 o,.int .i64 m,.slice ov5 lv5 cv5,.slice ot5 lt5 ct5]) (by simp[results,Tryz.f17,go_sem,q0,q1,q2,q3]) rfl ?_
       refine ⟨_,_,_,_,_,_,_,_,rfl,?_,HI.out.below.trans HBB.out⟩
       rw[Trm.shift,HM.out]
       refine trmR_iff.2 ⟨_,_,rfl,HO.out,HMI.out,?_,?_⟩
       ·have h1:=slC_of_row (row_hide (S:=S) (row_turned HI.out.vrow HT4.out fun g hg e=>by have:=(HI.out.vrow.lt g hg).1;omega) fun g hg hs=>by have:=(HI.out.vrow.lt g hg).1;have:=HS.out g hs;omega) (cellsG_ints (l:=v.map (rk k)) fun x hx=>by
         obtain ⟨z,hz,rfl⟩:=List.mem_map.1 hx
         rw[rk_i64 (HVI.out z hz)]
         exact wrap_I64 _)
        rwa[hide_size] at h1
       ·exact TrmS.shown HI.out.row.rep (Shown.trans (Shown.turned HT4.out fun b _ e=>.inl (.inr (by omega))) (Shown.less _ fun b _ h=>.inl (.inl h))) (by rw[set4_size];exact Nat.le_refl _)
  | false=>
   obtain rfl:n=m:=by rw[←HM.out,if_neg (fun h=>by have:=HQ.out.1 h;cases this)]
   have HI4:=HI3
   clear HI3
   go_upto_region 4 with fail
   have x2:=HI4.out.tb.cell 2 rfl
   have xl:=HI4.out.tb.lt
   go_wp2_with fail
   clear x2 xl
   go_loopg [6] lv (fun g i wr=>∃(j:Nat) (vsl:Value),g=lv-j∧j≤lv∧i=.int .i64 j∧Hid (ShJ w S [.int .i64 o,.int .i64 n,.slice ov lv cv,.slice ot lt ct] o n vsl (.slice none 0 0) ((v.take j).map (rk k)) [] wr))
   case atStart=>exact ⟨0,.slice none 0 0,rfl,by omega,rfl,HI4⟩
   case round=>
    obtain ⟨j,vsl,rfl,hj,rfl,HI⟩:=hrel
    clear HI4
    have x2:=HI.out.tb.cell 2 rfl
    have xl:=HI.out.tb.lt
    by_cases hjl:j<lv
    ·obtain ⟨z,hz⟩:∃z,v[j]?=some z:=⟨_,List.getElem?_eq_getElem (by rw[←HLV.out];exact hjl)⟩
     obtain ⟨b1,o1,e1,ho1,_,_,hc1,hi1,_⟩:=SlC.at HV.out (Below.refl _ _) hz
     subst ho1 hi1
     have d0:=hide_some (hc1 0 _ rfl)
     simp only[Nat.add_zero,Nat.mul_one] at d0
     have l0:=cell_lt d0.2
     have e0:=(HI.out.below.cell (p:=⟨b1,o1+j,none⟩) l0).trans d0.2
     have el:=Nat.lt_of_lt_of_le l0 HI.out.below.size
     have HSN:=Lib.hid (map_snoc (r:=rk k) hz)
     have HZI:=Lib.hid (HVI.out z (List.mem_of_getElem? hz))
     rw[rk_i64 HZI.out] at HSN
     clear hc1 hz d0 l0
     go_upto_region 7 with fail
     have HD5:=Lib.hid ((Below.refl wr.heap.size wr).drew)
     have HLN:=Lib.hid (show ((v.take j).map (rk k)).length≤4000000 from by simp;omega)
     refine wp_region_newF 10 (SvR wr.heap.size (.pointer (some ⟨w.heap.size+2,2,none⟩)) vsl (.pointer (some ⟨w.heap.size,2,none⟩)) (.slice (some ⟨b1,o1,none⟩) lv cv) j (.pointer (some ⟨b1,o1+j,none⟩)) z k) (by kernel_rfl) (by kernel_rfl) (fun i v A B h _ hb=>svR_kept i v A B h hb) ?hops ?hend
     case hops=>
      intro i q8 hi ho a w1 hex hdep hrest
      have hbw:Below wr.heap.size wr w1:=HD5.out.trans hex
      have hi1:=HI.out.keep hbw
      match i,hi with
      | 0,_=>
       cases ho
       have h5:a.tmps.getD 5 undef=.pointer (some ⟨w.heap.size+1+1,0,none⟩):=hrest.at 5 (by kernel_rfl)
       exact wp_valF (v:=.pointer (some ⟨w.heap.size+2,2,none⟩)) (w':=w1) (by go_simp) ⟨_,rfl,rfl,Below.refl _ _⟩
      | 1,_=>
       cases ho
       have h38:a.tmps.getD 38 undef=.pointer (some ⟨w.heap.size+2,2,none⟩):=hdep.at 0 38 (by kernel_rfl)
       have c2:=hi1.ob.cell 2 rfl
       have cl:=hi1.ob.lt
       exact wp_valF (v:=vsl) (w':=w1) (by go_simp) ⟨_,rfl,rfl,Below.refl _ _⟩
      | 2,_=>
       cases ho
       have h2:a.tmps.getD 2 undef=.pointer (some ⟨w.heap.size,0,none⟩):=hrest.at 2 (by kernel_rfl)
       exact wp_valF (v:=.pointer (some ⟨w.heap.size,2,none⟩)) (w':=w1) (by go_simp) ⟨_,rfl,rfl,Below.refl _ _⟩
      | 3,_=>
       cases ho
       have h40:a.tmps.getD 40 undef=.pointer (some ⟨w.heap.size,2,none⟩):=hdep.at 2 40 (by kernel_rfl)
       have c2:=hi1.tb.cell 2 rfl
       have cl:=hi1.tb.lt
       exact wp_valF (v:=.slice (some ⟨b1,o1,none⟩) lv cv) (w':=w1) (by go_simp) ⟨_,rfl,rfl,Below.refl _ _⟩
      | 4,_=>
       cases ho
       exact wp_moveF rfl ⟨_,rfl,hrest.at 6 (by kernel_rfl),Below.refl _ _⟩
      | 5,_=>
       cases ho
       have h41:a.tmps.getD 41 undef=.slice (some ⟨b1,o1,none⟩) lv cv:=hdep.at 3 41 (by kernel_rfl)
       have h42:a.tmps.getD 42 undef=.int .i64 j:=hdep.at 4 42 (by kernel_rfl)
       exact wp_valF (v:=.pointer (some ⟨b1,o1+j,none⟩)) (w':=w1) (by go_simp) ⟨_,rfl,rfl,Below.refl _ _⟩
      | 6,_=>
       cases ho
       have h43:a.tmps.getD 43 undef=.pointer (some ⟨b1,o1+j,none⟩):=hdep.at 5 43 (by kernel_rfl)
       have c0:=(hbw.cell (p:=⟨b1,o1+j,none⟩) el).trans e0
       have cl:=Nat.lt_of_lt_of_le el hbw.size
       exact wp_valF (v:=.int .i64 z) (w':=w1) (by go_simp) ⟨_,rfl,rfl,Below.refl _ _⟩
      | 7,_=>
       cases ho
       exact wp_moveF rfl ⟨_,rfl,hrest.at 1 (by kernel_rfl),Below.refl _ _⟩
      | 8,_=>
       cases ho
       have h44:a.tmps.getD 44 undef=.int .i64 z:=hdep.at 6 44 (by kernel_rfl)
       have h45:a.tmps.getD 45 undef=.int .i64 k:=hdep.at 7 45 (by kernel_rfl)
       exact wp_valF (v:=.int .i64 (wrap64 (z+k))) (w':=w1) (by go_simp;exact wrap64_is _) ⟨_,rfl,rfl,Below.refl _ _⟩
      | 9,_=>
       cases ho
       have h46:a.tmps.getD 46 undef=.int .i64 (wrap64 (z+k)):=hdep.at 8 46 (by kernel_rfl)
       exact wp_bsR rfl h46 (run_bsI w1 (wrap64 (z+k))) ⟨_,rfl,⟨_,rfl,hbw.size,BoxL.new rfl _ _⟩,Below.one _ _⟩
      | i+10,hi=>exact absurd hi (by omega)
     case hend=>
      intro a w1 hdf hsz hex hval hrest
      have h39:a.tmps.getD 39 undef=vsl:=hval 1 _ 39 (by omega) rfl rfl
      obtain ⟨b9,h47,hb9,hbx⟩:SvR wr.heap.size (.pointer (some ⟨w.heap.size+2,2,none⟩)) vsl (.pointer (some ⟨w.heap.size,2,none⟩)) (.slice (some ⟨b1,o1,none⟩) lv cv) j (.pointer (some ⟨b1,o1+j,none⟩)) z k 9 (a.tmps.getD 47 undef) w1:=hval 9 _ 47 (by omega) rfl rfl
      obtain ⟨f9,ha,hf⟩:=act_spellF [false,false,false,false,false,false,false,false,false,false,false,false,false,false,false,false,false,false,false,false,false,false,false,false,false,false,false,false,false,false,false,false,false,false,false,false,false,false,true,true,true,true,true,true,true,true,true,true,false,false,false,false,false,false,false,false,false,false,false,false,false,false,false,false,false,false,false,false,false,false] (by kernel_rfl) hdf hsz hrest
      rw[←hf] at h39 h47
      subst ha
      have HI8:=Lib.hid (HI.out.keep (HD5.out.trans hex))
      have HSL:=Lib.hid (show SlC w1 w1.heap.size 1 IntR [wrap64 (z+k)] (.slice (some ⟨b9,0,none⟩) 1 1) from ⟨_,1,1,rfl,rfl,by omega,by omega,fun _=>⟨rfl,hbx.lt⟩,fun i x hx=>by
       cases i with
       | zero=>
        obtain rfl:wrap64 (z+k)=x:=by simpa using hx
        exact ⟨[.int .i64 (wrap64 (z+k))],rfl,fun q u hq=>by have:=hbx.cell q hq;simpa using this,rfl,(wrap_I64 _).1,(wrap_I64 _).2⟩
       | succ i=>simp at hx⟩)
      clear hval hrest hf hdf hsz hex hbx x2 xl e0 el
      simp only[spellF,h39,h47,List.drop_succ_cons,List.drop_zero]
      refine wpList_append_ints rfl (.tmp 39) (.tmp 47) rfl (w.heap.size+3) w1.heap.size vsl ((v.take j).map (rk k)) [wrap64 (z+k)] rfl HI8.out.vrow (some ⟨b9,0,none⟩) 1 1 rfl HSL.out (by have:=HLN.out;simp only[List.length_singleton];omega) HI8.out.row.2.2.1 ?_
      intro v' w2 hown hgr
      have HI9:=Lib.hid (HI8.out.varr hown hgr HS.out)
      have hobx:=(Turned.grown (S:=fun b=>vsl.ownBlock=some b) hgr fun b hb=>hb).box HI8.out.ob (fun e=>by have:=(HI8.out.vrow.lt _ e).1;omega)
      obtain ⟨o9,l9,c9,rfl⟩:∃o' l' c',v'=.slice o' l' c':=by
       rcases hown.2 with ⟨h,_⟩ | ⟨g,cap,cur,h,_⟩
       ·exact ⟨_,_,_,h⟩
       ·exact ⟨_,_,_,h⟩
      have c2:=hobx.cell 2 rfl
      have cz:=hobx.free 2
      have cl:=hobx.lt
      clear hown hgr hobx
      go_wp2_with fail
      go_roundg (lv-(j+1))
      case measure=>omega
      case rel=>exact ⟨j+1,.slice o9 l9 c9,rfl,by omega,by go_num,by rw[HSN.out];exact HI9⟩
    ·obtain rfl:lv=j:=by omega
     have hvv:(v.take lv).map (rk k)=v.map (rk k):=by rw[List.take_of_length_le (by rw[←HLV.out];exact Nat.le_refl _)]
     rw[hvv] at HI
     obtain ⟨ov5,lv5,cv5,rfl⟩:∃o' l' c',vsl=.slice o' l' c':=by
      rcases HI.out.vrow.2 with ⟨h,_⟩ | ⟨g,cap,cur,h,_⟩
      ·exact ⟨_,_,_,h⟩
      ·exact ⟨_,_,_,h⟩
     obtain ⟨W5,rfl⟩:∃W5,W5=wr:=⟨_,rfl⟩
     have HI5:=HI
     clear hvv HI
     go_upto_region 8 with fail
     clear x2 xl
     have x3:=HI5.out.tb.cell 3 rfl
     have xl:=HI5.out.tb.lt
     go_wp2_with fail
     clear x3 xl
     go_loopg [7] lt (fun g i wr=>∃(j:Nat) (tsl:Value),g=lt-j∧j≤lt∧i=.int .i64 j∧Hid (ShJ w S [.int .i64 o,.int .i64 n,.slice ov lv cv,.slice ot lt ct] o n (.slice ov5 lv5 cv5) tsl (v.map (rk k)) (Trm.shiftL (rk k) (t.take j)) wr))
     case atStart=>exact ⟨0,.slice none 0 0,rfl,by omega,rfl,HI5⟩
     case round=>
      obtain ⟨j,tsl,rfl,hj,rfl,HI⟩:=hrel
      clear HI5
      have x3:=HI.out.tb.cell 3 rfl
      have xl:=HI.out.tb.lt
      by_cases hjl:j<lt
      ·obtain ⟨y,hy⟩:∃y,t[j]?=some y:=⟨_,List.getElem?_eq_getElem (by rw[←HLT.out];exact hjl)⟩
       have hSR:∀b,SR (SR (S3n S w.heap.size) (.slice ov5 lv5 cv5)) tsl b→S b∨w.heap.size≤b:=fun b hb=>by
        rcases hb with ((hb | hb) | hb) | hb
        ·exact .inl hb
        ·exact .inr hb.1
        ·have:=(HI.out.vrow.lt b hb).1;exact .inr (by omega)
        ·have:=(HI.out.row.block hb).1;exact .inr (by omega)
       obtain ⟨eb,eo,es,he,_,hcl,hcell,hir⟩:=SlC.at (TrmS.shown HT.out (shown_more HI.out.below hSR) HI.out.below.size) (Below.refl _ _) hy
       subst he
       obtain ⟨oy,ny,ky,oz,nz,kz,rfl,_,_,_,_⟩:=trmR_form hir
       have e0:=(hide_some (hcell 0 _ rfl)).2
       have e1:=(hide_some (hcell 1 _ rfl)).2
       have e2:=(hide_some (hcell 2 _ rfl)).2
       have e3:=(hide_some (hcell 3 _ rfl)).2
       simp only[Nat.add_zero] at e0
       have el:=cell_lt e0
       have HMEM:=Lib.hid (List.mem_of_getElem? hy)
       have HSN:=Lib.hid (shiftL_snoc (r:=rk k) hy)
       have hSlt:∀b,SR (SR (S3n S w.heap.size) (.slice ov5 lv5 cv5)) tsl b→b<wr.heap.size:=fun b hb=>hb.elim (HI.out.row.1 b) fun hb=>(HI.out.row.block hb).2
       have HCALL:=Lib.hid (fun W (hb:Below wr.heap.size wr W)=>IH.out y HMEM.out (SR (SR (S3n S w.heap.size) (.slice ov5 lv5 cv5)) tsl) _ _ _ _ W (hir.shown (Shown.below hb) hb.size) (fun b h=>Nat.lt_of_lt_of_le (hSlt b h) hb.size) (by have:=Trm.allL_mem HMEM.out;have:=HALL.out;rw[Trm.all] at this;omega) (by
        have h1:y.bnd.length≤(Trm.bndL t).length:=Fd.count_len _ _ fun a=>Fd.bnd_mem a HMEM.out
        have:=HBND.out
        rw[Trm.bnd,List.length_append] at this
        omega))
       have HSLT:=Lib.hid hSlt
       have HLN:=Lib.hid (show (Trm.shiftL (rk k) (t.take j)).length≤100000 from by rw[Trm.shiftL_eq];simp;omega)
       clear hir hcell hy hcl hSR hSlt
       go_upto_region 11 with fail
       have HD5:=Lib.hid ((Below.refl wr.heap.size wr).drew)
       refine wp_region_newF 10 (StR (SR (SR (S3n S w.heap.size) (.slice ov5 lv5 cv5)) tsl) (.pointer (some ⟨w.heap.size+2,3,none⟩)) tsl (.pointer (some ⟨w.heap.size,3,none⟩)) (.slice (some ⟨eb,eo,none⟩) lt ct) j (.pointer (some ⟨eb,eo+j*4,none⟩)) (.agg #[.int .i64 y.op,.int .i64 y.n,.slice oy ny ky,.slice oz nz kz]) (Trm.shift (rk k) y) k) (by kernel_rfl) (by kernel_rfl) (fun i v A B h _ hb=>stR_kept i v A B h hb) ?hops ?hend
       case hops=>
        intro i q8 hi ho a w1 hex hdep hrest
        have hbw:Below wr.heap.size wr w1:=HD5.out.trans hex
        have hi1:=HI.out.keep hbw
        match i,hi with
        | 0,_=>
         cases ho
         have h5:a.tmps.getD 5 undef=.pointer (some ⟨w.heap.size+1+1,0,none⟩):=hrest.at 5 (by kernel_rfl)
         exact wp_valF (v:=.pointer (some ⟨w.heap.size+2,3,none⟩)) (w':=w1) (by go_simp) ⟨_,rfl,rfl,Below.refl _ _⟩
        | 1,_=>
         cases ho
         have h57:a.tmps.getD 57 undef=.pointer (some ⟨w.heap.size+2,3,none⟩):=hdep.at 0 57 (by kernel_rfl)
         have c3:=hi1.ob.cell 3 rfl
         have cl:=hi1.ob.lt
         exact wp_valF (v:=tsl) (w':=w1) (by go_simp) ⟨_,rfl,rfl,Below.refl _ _⟩
        | 2,_=>
         cases ho
         have h2:a.tmps.getD 2 undef=.pointer (some ⟨w.heap.size,0,none⟩):=hrest.at 2 (by kernel_rfl)
         exact wp_valF (v:=.pointer (some ⟨w.heap.size,3,none⟩)) (w':=w1) (by go_simp) ⟨_,rfl,rfl,Below.refl _ _⟩
        | 3,_=>
         cases ho
         have h59:a.tmps.getD 59 undef=.pointer (some ⟨w.heap.size,3,none⟩):=hdep.at 2 59 (by kernel_rfl)
         have c3:=hi1.tb.cell 3 rfl
         have cl:=hi1.tb.lt
         exact wp_valF (v:=.slice (some ⟨eb,eo,none⟩) lt ct) (w':=w1) (by go_simp) ⟨_,rfl,rfl,Below.refl _ _⟩
        | 4,_=>
         cases ho
         exact wp_moveF rfl ⟨_,rfl,hrest.at 7 (by kernel_rfl),Below.refl _ _⟩
        | 5,_=>
         cases ho
         have h60:a.tmps.getD 60 undef=.slice (some ⟨eb,eo,none⟩) lt ct:=hdep.at 3 60 (by kernel_rfl)
         have h61:a.tmps.getD 61 undef=.int .i64 j:=hdep.at 4 61 (by kernel_rfl)
         exact wp_valF (v:=.pointer (some ⟨eb,eo+j*4,none⟩)) (w':=w1) (by go_simp) ⟨_,rfl,rfl,Below.refl _ _⟩
        | 6,_=>
         cases ho
         have h62:a.tmps.getD 62 undef=.pointer (some ⟨eb,eo+j*4,none⟩):=hdep.at 5 62 (by kernel_rfl)
         have c0:=(hbw.cell (p:=⟨eb,eo+j*4,none⟩) el).trans e0
         have c1:=(hbw.cell (p:=⟨eb,eo+j*4+1,none⟩) el).trans e1
         have c2:=(hbw.cell (p:=⟨eb,eo+j*4+2,none⟩) el).trans e2
         have c3:=(hbw.cell (p:=⟨eb,eo+j*4+3,none⟩) el).trans e3
         have cl:=Nat.lt_of_lt_of_le el hbw.size
         exact wp_valF (v:=.agg #[.int .i64 y.op,.int .i64 y.n,.slice oy ny ky,.slice oz nz kz]) (w':=w1) (by go_simp) ⟨_,rfl,rfl,Below.refl _ _⟩
        | 7,_=>
         cases ho
         exact wp_moveF rfl ⟨_,rfl,hrest.at 1 (by kernel_rfl),Below.refl _ _⟩
        | 8,_=>
         cases ho
         have h63:a.tmps.getD 63 undef=.agg #[.int .i64 y.op,.int .i64 y.n,.slice oy ny ky,.slice oz nz kz]:=hdep.at 6 63 (by kernel_rfl)
         have h64:a.tmps.getD 64 undef=.int .i64 k:=hdep.at 7 64 (by kernel_rfl)
         refine wp_callF (vals:=#[.agg #[.int .i64 y.op,.int .i64 y.n,.slice oy ny ky,.slice oz nz kz],.int .i64 k]) rfl (by simp only[List.map_toArray,List.map_cons,List.map_nil];rw[←h63,←h64];rfl) (fun _ _=>rfl) (HCALL.out w1 hbw) ?_
         intro e w' h
         obtain ⟨v,rfl,h1,h2⟩:=h.val
         exact ⟨v,rfl,v,rfl,h1,h2⟩
        | 9,_=>
         cases ho
         exact wp_bsT rfl (hdep.at 8 65 (by kernel_rfl)) (fun b hb=>Nat.lt_of_lt_of_le (HSLT.out b hb) hbw.size) fun v w' h1 h2=>⟨v,rfl,h1,h2⟩
        | i+10,hi=>exact absurd hi (by omega)
       case hend=>
        intro a w1 hdf hsz hex hval hrest
        have h58:a.tmps.getD 58 undef=tsl:=hval 1 _ 58 (by omega) rfl rfl
        have hs66:TrmS (hide w1 (SR (SR (S3n S w.heap.size) (.slice ov5 lv5 cv5)) tsl)) w1.heap.size [Trm.shift (rk k) y] (a.tmps.getD 66 undef):=hval 9 _ 66 (by omega) rfl rfl
        obtain ⟨u66,h66⟩:∃u,a.tmps.getD 66 undef=u:=⟨_,rfl⟩
        rw[h66] at hs66
        obtain ⟨f9,ha,hf⟩:=act_spellF [false,false,false,false,false,false,false,false,false,false,false,false,false,false,false,false,false,false,false,false,false,false,false,false,false,false,false,false,false,false,false,false,false,false,false,false,false,false,false,false,false,false,false,false,false,false,false,false,false,false,false,false,false,false,false,false,false,true,true,true,true,true,true,true,true,true,true,false,false,false] (by kernel_rfl) hdf hsz hrest
        rw[←hf] at h58 h66
        subst ha
        have HI8:=Lib.hid (HI.out.keep (HD5.out.trans hex))
        have HS8:=Lib.hid hs66
        clear hval hrest hf hdf hsz hex hs66 x3 xl e0 e1 e2 e3 el
        simp only[spellF,h58,h66,List.drop_succ_cons,List.drop_zero]
        refine wpList_growTF rfl (.tmp 58) (.tmp 66) rfl (w.heap.size+3) tsl u66 (Trm.shiftL (rk k) (t.take j)) [Trm.shift (rk k) y] rfl HI8.out.row rfl HS8.out (by have:=HLN.out;simp only[List.length_singleton];omega) ?_
        intro o9 l9 c9 w9 m1 _ m2
        have HI9:=Lib.hid (HI8.out.part m1.out m2.out)
        have hobx:=m2.out.box HI8.out.ob (fun e=>by have:=(HI8.out.row.block e).1;omega)
        have c3:=hobx.cell 3 rfl
        have cz:=hobx.free 3
        have cl:=hobx.lt
        clear hobx m1 m2
        go_wp2_with fail
        go_roundg (lt-(j+1))
        case measure=>omega
        case rel=>exact ⟨j+1,.slice o9 l9 c9,rfl,by omega,by go_num,by rw[HSN.out];exact HI9⟩
      ·obtain rfl:lt=j:=by omega
       have htt:t.take lt=t:=List.take_of_length_le (by rw[←HLT.out];exact Nat.le_refl _)
       rw[htt] at HI
       obtain ⟨ot5,lt5,ct5,rfl,hd1,hd2⟩:=HI.out.row.form
       clear hd1 hd2 htt
       have e0:=HI.out.ob.cell 0 rfl
       have e1:=HI.out.ob.cell 1 rfl
       have e2:=HI.out.ob.cell 2 rfl
       have e3:=HI.out.ob.cell 3 rfl
       have el:=HI.out.ob.lt
       have r0:=HI.out.rb.cell 0 rfl
       have r1:=HI.out.rb.cell 1 rfl
       have r2:=HI.out.rb.cell 2 rfl
       have r3:=HI.out.rb.cell 3 rfl
       have k0:=HI.out.rb.free 0
       have k1:=HI.out.rb.free 1
       have k2:=HI.out.rb.free 2
       have k3:=HI.out.rb.free 3
       have rl:=HI.out.rb.lt
       have HBF:=Lib.hid (set4_box HI.out.rb (.int .i64 o) (.int .i64 n) (.slice ov5 lv5 cv5) (.slice ot5 lt5 ct5))
       have q0:=HBF.out.cell 0 rfl
       have q1:=HBF.out.cell 1 rfl
       have q2:=HBF.out.cell 2 rfl
       have q3:=HBF.out.cell 3 rfl
       have HBB:=Lib.hid (set4_below wr (b:=w.heap.size+1) (n:=w.heap.size) (by omega) (.int .i64 o) (.int .i64 n) (.slice ov5 lv5 cv5) (.slice ot5 lt5 ct5))
       have HT4:=Lib.hid (set4_turned wr (S:=fun b=>b=w.heap.size+1) (b:=w.heap.size+1) rfl (.int .i64 o) (.int .i64 n) (.slice ov5 lv5 cv5) (.slice ot5 lt5 ct5))
       go_wp2_with fail
       refine bodyPost_ret (v:=.agg #[.int .i64 o,.int .i64 n,.slice ov5 lv5 cv5,.slice ot5 lt5 ct5]) (by simp[results,Tryz.f17,go_sem,q0,q1,q2,q3]) rfl ?_
       refine ⟨_,_,_,_,_,_,_,_,rfl,?_,HI.out.below.trans HBB.out⟩
       rw[Trm.shift,HM.out]
       refine trmR_iff.2 ⟨_,_,rfl,HO.out,HN.out,?_,?_⟩
       ·have h1:=slC_of_row (row_hide (S:=S) (row_turned HI.out.vrow HT4.out fun g hg e=>by have:=(HI.out.vrow.lt g hg).1;omega) fun g hg hs=>by have:=(HI.out.vrow.lt g hg).1;have:=HS.out g hs;omega) (cellsG_ints (l:=v.map (rk k)) fun x hx=>by
         obtain ⟨z,hz,rfl⟩:=List.mem_map.1 hx
         rw[rk_i64 (HVI.out z hz)]
         exact wrap_I64 _)
        rwa[hide_size] at h1
       ·exact TrmS.shown HI.out.row.rep (Shown.trans (Shown.turned HT4.out fun b _ e=>.inl (.inr (by omega))) (Shown.less _ fun b _ h=>.inl (.inl h))) (by rw[set4_size];exact Nat.le_refl _)
end
end Go.Proofs.YtgbibibmpoekiaaGreatDoor
