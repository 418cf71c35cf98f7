/-
  What the proofs lean on: FewT, FwP.
-/
import Derived.WalkSpells
import Derived.Deep.LoopGhost
import Derived.Deep.DeepCutAuto
import Derived.Test.YtgbibibmpoekiaaGreatDoorShfA10
import Derived.Test.YtgbibibmpoekiaaGreatDoorShfA11
set_option maxRecDepth 100000
set_option maxHeartbeats 16000000
namespace Go.Proofs.YtgbibibmpoekiaaGreatDoor
section
open Go Go.RowKit
namespace Trm
mutual
def few:Trm→Int→Int
 | mk _ _ _ t,left=>fewL t (left-1)
def fewL:List Trm→Int→Int
 | [],c=>c
 | x::l,c=>if 0≤c then fewL l (few x c) else c
end
theorem fewL_neg (l:List Trm) {c:Int} (hc:¬0≤c):fewL l c=c:=by
 cases l with
 | nil=>rfl
 | cons x l=>rw[fewL,if_neg hc]
theorem all_ge:∀x:Trm,1≤x.all
 | mk _ _ _ t=>by rw[all];omega
theorem few_eq (x:Trm):∀c:Int,0≤c→few x c=if (x.all:Int)≤c then c-x.all else -1:=by
 have hL:∀l:List Trm,(∀x∈l,∀c:Int,0≤c→few x c=if (x.all:Int)≤c then c-x.all else -1)→∀c:Int, -1≤c→fewL l c=if (allL l:Int)≤c then c-allL l else -1:=by
  intro l
  induction l with
  | nil=>
   intro _ c hc
   rw[fewL,allL]
   split
   ·simp
   ·omega
  | cons x l ih=>
   intro hx c hc
   have hp:=x.all_ge
   by_cases h0:0≤c
   ·rw[fewL,if_pos h0,hx x (by simp) c h0,ih (fun y hy=>hx y (by simp[hy])) _ (by split<;>omega),allL]
    split<;>split<;>(try split)<;>omega
   ·rw[fewL,if_neg h0,allL,if_neg (by omega)]
    omega
 induction x using Trm.ind with
 | _ o n v t ih=>
  intro c hc
  rw[few,hL t ih _ (by omega),all]
  split<;>split<;>omega
theorem few_range (x:Trm) {c:Int} (hc:0≤c):-1≤few x c∧few x c≤c:=by
 rw[few_eq x c hc]
 have:=x.all_ge
 split<;>omega
theorem fewL_step {l:List Trm} {i:Nat} {x:Trm} {c:Int} (h:l[i]?=some x) (hc:0≤c):fewL (l.drop i) c=fewL (l.drop (i+1)) (few x c):=by
 have e:l.drop i=x::l.drop (i+1):=by
  obtain ⟨hi,he⟩:=List.getElem?_eq_some_iff.1 h
  rw[←he];exact List.drop_eq_getElem_cons hi
 rw[e,fewL,if_pos hc]
theorem few_ge0 (x:Trm) {c:Int} (hc:0≤c):decide (0≤few x c)=decide ((x.all:Int)≤c):=by
 rw[few_eq x c hc,decide_eq_decide]
 split<;>omega
theorem allL_take:∀(l:List Trm) (j:Nat) (x:Trm),l[j]?=some x→allL (l.take (j+1))=allL (l.take j)+x.all
 | [],j,x,h=>by simp at h
 | y::l,0,x,h=>by
  simp only[List.getElem?_cons_zero,Option.some.injEq] at h
  subst h
  simp[allL]
 | y::l,j+1,x,h=>by
  have:=allL_take l j x (by simpa using h)
  simp only[List.take_succ_cons,allL]
  omega
theorem allL_take_le:∀(l:List Trm) (j:Nat),allL (l.take j)≤allL l
 | [],j=>by simp
 | y::l,0=>by simp[allL]
 | y::l,j+1=>by
  have:=allL_take_le l j
  simp only[List.take_succ_cons,allL]
  omega
end Trm
theorem trm_boxed {w:World} {B:Nat} {o n:Int} {v:List Int} {t:List Trm} {c0 c1 c2 c3:Value} (h:TrmR w B (.mk o n v t) [c0,c1,c2,c3]):∃vs q len cap,c0=.int .i64 o∧c1=.int .i64 n∧c2=vs∧c3=.slice q len cap∧SlC w B 4 (TrmR w B) t (.slice q len cap)∧SlC w B 1 IntR v vs∧len=t.length∧len≤9223372036854775807:=by
 obtain ⟨vs,ts,he,_,_,h3,h4⟩:=trmR_iff.1 h
 simp only[List.cons.injEq,and_true] at he
 obtain ⟨rfl,rfl,rfl,rfl⟩:=he
 obtain ⟨q,len,cap,rfl⟩:=h4.form
 have:=h4.lens
 exact ⟨_,_,_,_,rfl,rfl,rfl,rfl,h4,h3,this.1,by omega⟩
theorem tfew_any (x:Trm):∀(c0 c1 c2 c3:Value) (left:Int) (B:Nat) (w:World),TrmR w B x [c0,c1,c2,c3]→B≤w.heap.size→0≤left→left≤100000 →
  Calls Tryz.prog 27 #[.agg #[c0,c1,c2,c3],.int .i64 left] w fun e w'=>e=.returned (.int .i64 (Trm.few x left))∧Below w.heap.size w w':=by
 induction x using Trm.ind with
 | _ o n v t ih=>
  intro c0 c1 c2 c3 left B w hv hB h0 h1
  obtain ⟨vs,q,len,cap,rfl,rfl,rfl,rfl,hs,_,hlen,hmx⟩:=trm_boxed hv
  obtain ⟨W1,hW1⟩:∃W1,w.alloc (.cells #[.int .i64 o,.int .i64 n,c2,.slice q len cap] 26)=W1:=⟨_,rfl⟩
  have HB1:=Lib.hid (show Below w.heap.size w W1 from by rw[←hW1];exact Below.one w _)
  have HX1:=Lib.hid (show BoxL W1 w.heap.size 26 [.int .i64 o,.int .i64 n,c2,.slice q len cap] from by rw[←hW1];exact BoxL.new rfl _ _)
  have IH:=Lib.hid ih
  have HS:=Lib.hid hs
  have HL:=Lib.hid hlen
  have HW:=Lib.hid hW1
  clear ih hv hs hlen hW1
  go_enter Tryz.func27,Tryz.ntmps27
  go_upto_region 1 with fail
  rw[HW.out]
  go_wp2
  go_loopg [1,5] len (fun g a i wr=>∃(cur:Int) (j:Nat),g=len-j∧a=.int .i64 cur∧i=.int .i64 j∧j≤len∧-1≤cur∧cur≤100000∧Hid (Trm.fewL (t.drop j) cur=Trm.fewL t (left-1))∧Hid (Below W1.heap.size W1 wr))
  case atStart=>exact ⟨left-1,0,rfl,rfl,rfl,by omega,by omega,by omega,Lib.hid rfl,Lib.hid (Below.refl _ _)⟩
  case round=>
   obtain ⟨cur,j,rfl,rfl,rfl,hj,hc1,hc2,HF,HBR⟩:=hrel
   have HXR:=Lib.hid (HX1.out.keep HBR.out)
   have HBW:=Lib.hid (HB1.out.trans (HBR.out.mono HB1.out.size))
   have b3:=HXR.out.cell 3 rfl
   have bl:=HXR.out.lt
   by_cases hjl:j<len
   ·by_cases hcur:0≤cur
    ·obtain ⟨x,hx⟩:∃x,t[j]?=some x:=⟨_,List.getElem?_eq_getElem (by rw[←HL.out];exact hjl)⟩
     obtain ⟨b,off,cs,ho,_,hcl,hcell,hir⟩:=SlC.at HS.out (HBW.out.mono hB) hx
     subst ho
     match cs,hcl with
     | [d0,d1,d2,d3],_=>
      have e0:=hcell 0 _ rfl
      have e1:=hcell 1 _ rfl
      have e2:=hcell 2 _ rfl
      have e3:=hcell 3 _ rfl
      simp only[Nat.add_zero] at e0
      have HX:=Lib.hid hx
      have hg:=Trm.few_range x hcur
      have HF2:=Lib.hid ((Trm.fewL_step hx hcur).symm.trans HF.out)
      have HCC:=Lib.hid (IH.out x (List.mem_of_getElem? hx) d0 d1 d2 d3 cur B wr (TrmR.kept (HBW.out.mono hB) _ _ hir) (by have:=HBW.out.size;omega) hcur hc2)
      obtain ⟨y,hy⟩:∃y,Trm.few x cur=y:=⟨_,rfl⟩
      rw[hy] at hg HF2 HCC
      clear hx hir hcell hy
      go_wp2_with fail
      with_reducible refine HCC.out.mono ?_
      rintro e w1 ⟨rfl,hb1⟩
      have HBN:=Lib.hid (HBR.out.trans (hb1.mono HBR.out.size))
      clear hb1 HCC
      go_wp2_with fail
      go_roundg (len-(j+1))
      case measure=>omega
      case rel=>exact ⟨y,j+1,rfl,rfl,by go_num,by omega,by omega,by omega,HF2,HBN⟩
    ·have HR:=Lib.hid (show Trm.fewL t (left-1)=cur by rw[←HF.out,Trm.fewL_neg _ hcur])
     go_wp2
     go_ret
     exact ⟨ret_int (by rw[Trm.few];exact HR.out.symm),HBW.out⟩
   ·have HR:=Lib.hid (show Trm.fewL t (left-1)=cur by
     rw[←HF.out,List.drop_eq_nil_of_le (by rw[←HL.out];omega)];rfl)
    go_wp2
    go_ret
    exact ⟨ret_int (by rw[Trm.few];exact HR.out.symm),HBW.out⟩
theorem tFew_any (x:Trm) (c0 c1 c2 c3:Value) (left:Int) (B:Nat) (w:World) (hv:TrmR w B x [c0,c1,c2,c3]) (hB:B≤w.heap.size) (h0:0≤left) (h1:left≤100000) :
  Calls Tryz.prog 14 #[.agg #[c0,c1,c2,c3],.int .i64 left] w fun e w'=>e=.returned (.bool (decide ((x.all:Int)≤left)))∧Below w.heap.size w w':=by
 have HD:=Lib.hid (Trm.few_ge0 x h0)
 have HCC:=Lib.hid (tfew_any x c0 c1 c2 c3 left B (w.alloc (.cells #[c0,c1,c2,c3] 26)) (TrmR.kept ((Below.one w _).mono hB) _ _ hv) (by simp;omega) h0 h1)
 obtain ⟨o,n,v,t⟩:=x
 obtain ⟨vs,q,len,cap,rfl,rfl,rfl,rfl,hs,_,hlen,hmx⟩:=trm_boxed hv
 obtain ⟨oo,ll,cc,rfl⟩:∃oo ll cc,c2=.slice oo ll cc:=by
  obtain ⟨vs',ts,he,_,_,h3,_⟩:=trmR_iff.1 hv
  simp only[List.cons.injEq,and_true] at he
  obtain ⟨_,_,rfl,_⟩:=he
  exact h3.form
 obtain ⟨y,hy⟩:∃y,Trm.few (.mk o n v t) left=y:=⟨_,rfl⟩
 rw[hy] at HD HCC
 clear hv hs hlen hmx hy
 go_enter Tryz.func14,Tryz.ntmps14
 go_wp2_with fail
 with_reducible refine HCC.out.mono ?_
 rintro e' w1 ⟨rfl,hb1⟩
 go_wp2_with fail
 go_ret
 exact ⟨by rw[←HD.out];rfl,(Below.one w _).trans (hb1.mono (by simp))⟩
end
section
namespace Fd
open Trm
def letStep (last:Trm) (r:List (Int × Trm) × List Int × List Trm) (v:Int) (x:Trm):List (Int × Trm) × List Int × List Trm:=
 if light x then (r.1++[(v,x)],r.2.1,r.2.2) else if !idle x || named v last then (r.1,r.2.1++[v],r.2.2++[x]) else r
theorem lets_snoc (last:Trm) (v:Int) (x:Trm):∀(vs:List Int) (l:List Trm),vs.length=l.length→lets last (vs++[v]) (l++[x])=letStep last (lets last vs l) v x
 | [],[],_=>by
  rw[List.nil_append,List.nil_append,lets,letStep]
  simp only[lets]
  split
  ·rfl
  ·split<;>rfl
 | [],_::_,h=>by simp at h
 | _::_,[],h=>by simp at h
 | u::vs,y::l,h=>by
  have ih:=lets_snoc last v x vs l (by simpa using h)
  rw[List.cons_append,List.cons_append,lets,ih,lets]
  unfold letStep
  by_cases hy:light y=true
  ·simp only[hy,if_true]
   by_cases hx:light x=true
   ·simp only[hx,if_true,List.cons_append]
   ·simp only[hx]
    by_cases hi:(!idle x || named v last)=true
    ·simp[hi]
    ·simp[hi]
  ·simp only[hy]
   by_cases hi:(!idle y || named u last)=true
   ·simp only[hi,if_true]
    by_cases hx:light x=true
    ·simp[hx]
    ·simp only[hx]
     by_cases hj:(!idle x || named v last)=true
     ·simp[hj]
     ·simp[hj]
   ·simp only[hi]
    by_cases hx:light x=true
    ·simp[hx]
    ·simp only[hx]
     by_cases hj:(!idle x || named v last)=true
     ·simp[hj]
     ·simp[hj]
theorem lets_take (last:Trm) {vs:List Int} {l:List Trm} {j:Nat} {v:Int} {x:Trm} (hv:vs[j]?=some v) (hx:l[j]?=some x):lets last (vs.take (j+1)) (l.take (j+1))=letStep last (lets last (vs.take j) (l.take j)) v x:=by
 rw[List.take_add_one,List.take_add_one,hv,hx]
 have h1:=(List.getElem?_eq_some_iff.1 hv).1
 have h2:=(List.getElem?_eq_some_iff.1 hx).1
 exact lets_snoc last v x _ _ (by rw[List.length_take,List.length_take];omega)
theorem lets_cut (last:Trm):∀(vs:List Int) (l:List Trm),lets last vs (l.take vs.length)=lets last vs l
 | [],l=>by simp[lets]
 | v::vs,[]=>by simp[lets]
 | v::vs,x::l=>by
  rw[List.length_cons,List.take_succ_cons,lets,lets,lets_cut last vs l]
theorem lets_len (last:Trm):∀(vs:List Int) (l:List Trm),(lets last vs l).2.1.length=(lets last vs l).2.2.length∧(lets last vs l).2.1.length≤vs.length
 | [],l=>by simp[lets]
 | v::vs,[]=>by simp[lets]
 | v::vs,x::l=>by
  have ih:=lets_len last vs l
  rw[lets]
  simp only[List.length_cons]
  split
  ·exact ⟨ih.1,by have:=ih.2;simp only;omega⟩
  ·split
   ·simp only[List.length_cons];omega
   ·exact ⟨ih.1,by have:=ih.2;omega⟩
theorem letT_eq {vs:List Int} {l:List Trm} {last:Trm} (h:l[vs.length]?=some last):letT vs l=if (lets last vs l).2.1=[] then put (lets last vs l).1.reverse last else mk 8 0 (lets last vs l).2.1 ((lets last vs l).2.2++[put (lets last vs l).1.reverse last]):=by
 unfold letT
 rw[h]
 simp only
 cases (lets last vs l).2.1 with
 | nil=>rfl
 | cons=>rfl
end Fd
end
end Go.Proofs.YtgbibibmpoekiaaGreatDoor
