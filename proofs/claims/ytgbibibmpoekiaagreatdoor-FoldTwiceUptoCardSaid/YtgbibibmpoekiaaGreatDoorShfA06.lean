/-
  What the proofs lean on: Boxes, Names, RTexts.
-/
import Derived.Deep.Quiet
import Derived.StillTail
import Derived.BigQuiet
import Derived.RangeFuncBox
import Derived.Lib.ConvBytes
import Derived.Lib.IndexAny
import Derived.Test.YtgbibibmpoekiaaGreatDoorShfA04
import Derived.Test.YtgbibibmpoekiaaGreatDoorShfA05
set_option maxRecDepth 100000
set_option maxHeartbeats 16000000
namespace Go.Proofs.YtgbibibmpoekiaaGreatDoor
section
open Go
section
variable {P : Program} {ops : Array Oper} {md : Region.Mode} {C : World → Prop}
def headAny (P:Program) (md:Region.Mode) (ops:Array Oper) (C:World→Prop) (n:Nat) (L:Array Bool→Act→Prop):Nat→Array Bool→Act→Prop
 | 0,listed,a=>L listed a
 | f+1,listed,a=>Region.ready md ops listed≠[]∧∀i∈Region.ready md ops listed,i<n∧qOp P ops C i (headAny P md ops C n L f (listed.setIfInBounds i true)) a
theorem any_of_head {n g:Nat} {L:Array Bool→Act→Prop} {Q':Exit→Act→World→Prop} (hL:∀listed a w,C w→L listed a→wpAny P md ops Q' g listed a w) :
  ∀(f:Nat) (listed:Array Bool) (a:Act) (w:World),C w→headAny P md ops C n L f listed a→wpAny P md ops Q' (f+g) listed a w
 | 0,listed,a,w,hC,h=>by rw[Nat.zero_add];exact hL _ _ _ hC h
 | f+1,listed,a,w,hC,h=>by
  rw[show f+1+g=(f+g)+1 by omega]
  exact ⟨fun h0=>absurd h0 h.1,fun i hi=>wpOp_of_qOp hC (fun a' w' hC' h'=>any_of_head hL f _ a' w' hC' h') (h.2 i hi).2⟩
theorem head_front {n i:Nat} {oi:Oper} {v:Value} {L:Array Bool→Act→Prop} (hi:ops[i]?=some oi) (hsel:∀(j:Nat) (o:Oper) cs b,ops[j]?=some o→o.op≠.select cs b)
  (hs:Region.sinkB md ops n=true) (hc:Region.chainB md ops n=true) (hn:n<ops.size) (hin:i<n) (hdone:∀listed a,L listed a→∀j∈Region.ready md ops listed,n≤j) :
  ∀(f:Nat) (listed:Array Bool) (a:Act),HeadInv md ops n listed →
   (∀j oj,ops[j]?=some oj→j≠i→listed.getD j true=false→(∀e∈oj.after,Region.binds md e=true→e.on≠i)→oi.apart ops oj=true) →
   i∈Region.ready md ops listed→YieldsIn P ops C oi v a →
   headAny P md ops C n L f (listed.setIfInBounds i true) (a.put oi.dst v)→headAny P md ops C n L (f+1) listed a:=by
 intro f
 induction f with
 | zero=>
  intro listed a inv _ hr hy H
  have hun:=(mem_ready.1 hr).1
  refine ⟨fun h=>(by rw[h] at hr;cases hr),fun j hj=>?_⟩
  have hjn:j<n:=by
   rcases Nat.lt_or_ge j n with h | h
   ·exact h
   ·exact absurd hj (tail_waits hs hc hn inv _ i rfl hin hun j h)
  refine ⟨hjn,?_⟩
  by_cases hji:j=i
  ·subst hji;exact hy.qOp hi H
  ·have:=hdone _ _ H j (ready_mono hj hji)
   omega
 | succ f ih=>
  intro listed a inv hfree hr hy H
  have hun:=(mem_ready.1 hr).1
  refine ⟨fun h=>(by rw[h] at hr;cases hr),fun j hj=>?_⟩
  have hjn:j<n:=by
   rcases Nat.lt_or_ge j n with h | h
   ·exact h
   ·exact absurd hj (tail_waits hs hc hn inv _ i rfl hin hun j h)
  refine ⟨hjn,?_⟩
  by_cases hji:j=i
  ·subst hji;exact hy.qOp hi H
  ·have h1:=(H.2 j (ready_mono hj hji)).2
   obtain ⟨hjun,oj,hoj,hall⟩:=mem_ready.1 hj
   have hnot:∀e∈oj.after,Region.binds md e=true→e.on≠i:=fun e he hb heq=>by
    have h1:=hall e he hb
    rw[heq,getD_both hun] at h1
    cases h1
   have h2:=qOp_put hoj (hfree j oj hoj hji hjun hnot) (fun cs b=>hsel i oi cs b hi) (fun cs b=>hsel j oj cs b hoj) hy h1
   have hfree':∀k ok,ops[k]?=some ok→k≠i→(listed.setIfInBounds j true).getD k true=false→(∀e∈ok.after,Region.binds md e=true→e.on≠i)→oi.apart ops ok=true:=fun k ok hk hki hunk hno=>by
    refine hfree k ok hk hki ?_ hno
    by_cases hjk:j=k
    ·subst hjk;exact hjun
    ·rw[getD_set_ne true hjk] at hunk;exact hunk
   refine qOp_mono (fun a' h3=>ih (listed.setIfInBounds j true) a' (inv.set hj hjn) hfree' (ready_mono hr (Ne.symm hji)) h3.1 ?_) h2
   rw[Array.setIfInBounds_comm _ _ hji]
   exact h3.2
theorem head_lex {n g:Nat} {Lq:Act→Prop} (hsel:Region.noSelect ops=true) (hs:Region.sinkB md ops n=true) (hc:Region.chainB md ops n=true) (hn:n<ops.size) :
  ∀(l:List Oper) (k:Nat) (listed:Array Bool) (a:Act),(∀j,j<l.length→l[j]?=ops[k+j]?)→k+l.length=n→HeadInv md ops n listed →
  Region.lexHead md ops g l.length k listed=true→wpQuiet P ops C Lq l a →
  headAny P md ops C n (fun listed' a'=>Region.seqB md ops g n listed'=true∧Lq a') l.length listed a
 | [],k,listed,a,_,hk,_,hB,h=>by
  have:k=n:=by simpa using hk
  subst this
  exact ⟨by simpa[Region.lexHead] using hB,h⟩
 | o::l,k,listed,a,hl,hk,inv,hB,h=>by
  have h0:ops[k]?=some o:=by simpa using (hl 0 (by simp)).symm
  simp only[List.length_cons,Region.lexHead,Bool.and_eq_true] at hB
  obtain ⟨⟨hr,hf⟩,hB'⟩:=hB
  have hkn:k<n:=by simp only[List.length_cons] at hk;omega
  have hr':k∈Region.ready md ops listed:=by simpa using hr
  have hst:qOp P ops C k (wpQuiet P ops C Lq l) a:=by unfold qOp;simp only[h0];exact h
  obtain ⟨v,hy,hK⟩:=yieldsIn_of_qOp h0 hst
  exact head_front h0 (Region.noSelect_spec hsel) hs hc hn hkn (fun listed' a' hL=>seqB_ready hL.1) l.length listed a inv (Region.free_spec h0 hf) hr' hy
   (head_lex hsel hs hc hn l (k+1) _ _ (fun j hj=>by have:=hl (j+1) (by simp;omega);simpa[Nat.add_assoc,Nat.add_comm 1 j] using this) (by simp only[List.length_cons] at hk;omega) (inv.set hr' hkn) hB' hK)
theorem wp_region_quiet_tail {id:Nat} {Q:Exit→Act→World→Prop} {a:Act} {w:World} {l:List Oper} (C:World→Prop) (n:Nat) (hm:P.follows .mixedOrders=true) (hB:Region.lexTailB .any l.toArray n=true) (hC:C w.drew)
  (h:wpQuiet P l.toArray C (fun a'=>∀w',C w'→wpList P l.toArray Q (l.drop n) a' w') (l.take n) a):(Code.region id l.toArray true).wp P Q a w:=by
 simp only[Region.lexTailB,Bool.and_eq_true,decide_eq_true_eq] at hB
 obtain ⟨⟨⟨⟨hsel,hn⟩,hs⟩,hc⟩,hlex⟩:=hB
 have hn':n<l.length:=by simpa using hn
 have htl:(l.take n).length=n:=by simp;omega
 have hdl:(l.drop n).length=l.toArray.size-n:=by simp
 have inv0:HeadInv .any l.toArray n (Array.replicate l.toArray.size false):=
  ⟨by simp,fun j oj _ hl=>(by rw[getD_replicate_false] at hl;cases hl),fun t _ ht=>getD_in (by simpa using ht) (getD_replicate_false _ _)⟩
 have H:=head_lex (md:=.any) (g:=l.toArray.size-n) hsel hs hc hn (l.take n) 0 _ a (fun j hj=>by
  have hj':j<n:=by rw[htl] at hj;exact hj
  simp[hj']) (by simpa using htl) inv0 (by rw[htl];exact hlex) h
 refine wp_region_any hm ?_
 have:=any_of_head (Q':=Q) (g:=l.toArray.size-n) (fun listed a' w' hC' hL=>by
  have:=wpAny_of_seq (md:=.any) (Q':=Q) (l.drop n) n listed a' w' (fun j=>by simp[List.getElem?_drop]) (by rw[hdl];exact hL.1) (hL.2 w' hC')
  rwa[hdl] at this) _ _ _ _ hC H
 rw[htl,show n+(l.toArray.size-n)=l.toArray.size by omega] at this
 exact this
theorem wp_region_quiet_class {id:Nat} {Q:Exit→Act→World→Prop} {a:Act} {w:World} {l:List Oper} (C:World→Prop) (n:Nat) (hm:P.follows .mixedOrders=true) (hB:Region.lexTailB .any l.toArray n=true) (hC:C w.drew)
  (h:∀(T:Type) [Nonempty T] (W:T→World),(∀t,C (W t))→(∀w',C w'→∃t,w'=W t)→wpQuiet P l.toArray (fun w'=>∃t,w'=W t) (fun a'=>∀t,wpList P l.toArray Q (l.drop n) a' (W t)) (l.take n) a):(Code.region id l.toArray true).wp P Q a w:=by
 haveI:Nonempty { w':World // C w' }:=⟨⟨_,hC⟩⟩
 have h1:=h { w':World // C w' } (fun t=>t.1) (fun t=>t.2) (fun w' hw=>⟨⟨w',hw⟩,rfl⟩)
 have e:(fun w':World=>∃t:{ w':World // C w' },w'=t.1)=C:=by
  funext w'
  exact propext ⟨fun ⟨t,ht⟩=>ht ▸ t.2,fun hw=>⟨⟨w',hw⟩,rfl⟩⟩
 rw[e] at h1
 refine wp_region_quiet_tail C n hm hB hC ?_
 have e2:(fun a'=>∀w',C w'→wpList P l.toArray Q (l.drop n) a' w')=(fun a'=>∀t:{ w':World // C w' },wpList P l.toArray Q (l.drop n) a' t.1):=by
  funext a'
  exact propext ⟨fun h t=>h t.1 t.2,fun h w' hw=>h ⟨w',hw⟩⟩
 rw[e2]
 exact h1
theorem wp_region_quiet_all {id:Nat} {Q:Exit→Act→World→Prop} {a:Act} {w:World} {l:List Oper} (C:World→Prop) (hm:P.follows .mixedOrders=true) (hB:Region.lexB .any l.toArray=true) (hC:C w.drew)
  (h:∀(T:Type) [Nonempty T] (W:T→World),(∀t,C (W t))→(∀w',C w'→∃t,w'=W t)→wpQuiet P l.toArray (fun w'=>∃t,w'=W t) (fun a'=>∀t,Q .normal a' (W t)) l a):(Code.region id l.toArray true).wp P Q a w:=by
 haveI:Nonempty { w':World // C w' }:=⟨⟨_,hC⟩⟩
 have h1:=h { w':World // C w' } (fun t=>t.1) (fun t=>t.2) (fun w' hw=>⟨⟨w',hw⟩,rfl⟩)
 have e:(fun w':World=>∃t:{ w':World // C w' },w'=t.1)=C:=by
  funext w'
  exact propext ⟨fun ⟨t,ht⟩=>ht ▸ t.2,fun hw=>⟨⟨w',hw⟩,rfl⟩⟩
 rw[e] at h1
 refine wp_region_quiet (C:=C) hm hB hC ?_
 have e2:(fun a'=>∀w',C w'→Q .normal a' w')=(fun a'=>∀t:{ w':World // C w' },Q .normal a' t.1):=by
  funext a'
  exact propext ⟨fun h t=>h t.1 t.2,fun h w' hw=>h ⟨w',hw⟩⟩
 rw[e2]
 exact h1
theorem calls_class {f:FuncId} {args:Array Value} {w:World} {v:Value} {T:Type} {W:T→World} (hW:∀w',C w'→∃t,w'=W t)
  (h:Calls P f args w fun e w'=>e=.returned v∧C w'):Calls P f args w fun e w'=>e=.returned v∧∃t,w'=W t:=
 h.mono fun _ _ ⟨he,hc⟩=>⟨he,hW _ hc⟩
end
end
section
open Go.RowKit
theorem box_below (w:World) (cs:Array Value) (t:TypeId) (B:Obj) (i:Nat) {v:Value} (h:cs[i]?=some v):((w.alloc (.cells cs t)).alloc B).cell? ⟨w.heap.size,i,none⟩=some v:=by
 rw[below_cells ((Below.refl (w.alloc (.cells cs t)).heap.size (w.alloc (.cells cs t))).alloc (Nat.le_refl _) B) w.heap.size i (by simp)]
 exact box_cell w cs t i h
def Two (w:World) (cs:Array Value) (t:TypeId) (ds:Array Value) (w':World):Prop:=Below (w.heap.size+2) ((w.alloc (.cells cs t)).alloc (.cells ds t)) w'
theorem Two.cell {w w':World} {cs ds:Array Value} {t:TypeId} (h:Two w cs t ds w') (i:Nat) {v:Value} (hv:cs[i]?=some v):w'.cell? ⟨w.heap.size,i,none⟩=some v:=by
 rw[Below.cell h (p:=⟨w.heap.size,i,none⟩) (by simp)]
 exact box_below w cs t _ i hv
theorem Two.next {w w' w'':World} {cs ds:Array Value} {t:TypeId} (h:Two w cs t ds w') (h':Below w'.heap.size w' w''):Two w cs t ds w'':=
 Below.trans h (h'.mono (by have:=Below.size h;simp at this;omega))
theorem Two.drew {w:World} {cs ds:Array Value} {t:TypeId}:Two w cs t ds ((w.alloc (.cells cs t)).alloc (.cells ds t)).drew:=(Below.refl _ _).drew
theorem Two.size {w w':World} {cs ds:Array Value} {t:TypeId} (h:Two w cs t ds w'):w.heap.size+2≤w'.heap.size:=by
 have:=Below.size h;simpa using this
theorem Two.cell2 {w w':World} {cs ds:Array Value} {t:TypeId} (h:Two w cs t ds w') (i:Nat) {v:Value} (hv:ds[i]?=some v):w'.cell? ⟨w.heap.size+1,i,none⟩=some v:=by
 rw[Below.cell h (p:=⟨w.heap.size+1,i,none⟩) (by simp)]
 have:=box_cell (w.alloc (.cells cs t)) ds t i hv
 rwa[show (w.alloc (.cells cs t)).heap.size=w.heap.size+1 by simp] at this
theorem Two.free2 {w w':World} {cs ds:Array Value} {t:TypeId} (h:Two w cs t ds w') (i:Nat):w'.frozen? ⟨w.heap.size+1,i,none⟩=false:=by
 rw[Below.frozen h (p:=⟨w.heap.size+1,i,none⟩) (by simp)]
 exact World.frozen?_alloc_at (w:=w.alloc (.cells cs t)) ds t _ i (by simp)
theorem Two.five {w w':World} {cs:Array Value} {t:TypeId} {d0 d1 d2 d3 d4:Value} (h:Two w cs t #[d0,d1,d2,d3,d4] w') :
  w'.cell? ⟨w.heap.size+1,0,none⟩=some d0∧w'.cell? ⟨w.heap.size+1,1,none⟩=some d1∧w'.cell? ⟨w.heap.size+1,2,none⟩=some d2∧w'.cell? ⟨w.heap.size+1,3,none⟩=some d3∧w'.cell? ⟨w.heap.size+1,4,none⟩=some d4 ∧
   w'.frozen? ⟨w.heap.size+1,0,none⟩=false∧w'.frozen? ⟨w.heap.size+1,1,none⟩=false∧w'.frozen? ⟨w.heap.size+1,2,none⟩=false∧w'.frozen? ⟨w.heap.size+1,3,none⟩=false∧w'.frozen? ⟨w.heap.size+1,4,none⟩=false:=
 ⟨h.cell2 0 rfl,h.cell2 1 rfl,h.cell2 2 rfl,h.cell2 3 rfl,h.cell2 4 rfl,h.free2 0,h.free2 1,h.free2 2,h.free2 3,h.free2 4⟩
theorem Two.stored {w w':World} {cs ds:Array Value} {t:TypeId} (h:Two w cs t ds w') (v0 v1 v2 v3 v4:Value) :
  Below w.heap.size w (((((w'.setCell ⟨w.heap.size+1,0,none⟩ v0).setCell ⟨w.heap.size+1,1,none⟩ v1).setCell ⟨w.heap.size+1,2,none⟩ v2).setCell ⟨w.heap.size+1,3,none⟩ v3).setCell ⟨w.heap.size+1,4,none⟩ v4):=
 ((((((((Below.refl w.heap.size w).alloc (Nat.le_refl _) _).alloc (by simp) _).trans (Below.mono h (by omega))).setCell (by simp) _).setCell (by simp) _).setCell (by simp) _).setCell (by simp) _).setCell (by simp) _
theorem two_cell1 {w w1:World} {cs ds:Array Value} {t u:TypeId} (hb:Below ((w.alloc (.cells cs t)).alloc (.cells ds u)).heap.size ((w.alloc (.cells cs t)).alloc (.cells ds u)) w1) (i:Nat) {v:Value} (h:cs[i]?=some v):w1.cell? ⟨w.heap.size,i,none⟩=some v:=by
 rw[Below.cell hb (p:=⟨w.heap.size,i,none⟩) (by simp;omega)]
 exact box_below w cs t _ i h
theorem two_cell2 {w w1:World} {cs ds:Array Value} {t u:TypeId} (hb:Below ((w.alloc (.cells cs t)).alloc (.cells ds u)).heap.size ((w.alloc (.cells cs t)).alloc (.cells ds u)) w1) (i:Nat) {v:Value} (h:ds[i]?=some v):w1.cell? ⟨w.heap.size+1,i,none⟩=some v:=by
 rw[Below.cell hb (p:=⟨w.heap.size+1,i,none⟩) (by simp)]
 have:=box_cell (w.alloc (.cells cs t)) ds u i h
 rwa[show (w.alloc (.cells cs t)).heap.size=w.heap.size+1 by simp] at this
theorem two_below {w w1:World} {A B:Obj} (hb:Below ((w.alloc A).alloc B).heap.size ((w.alloc A).alloc B) w1):Below w.heap.size w w1:=
 (((Below.refl w.heap.size w).alloc (Nat.le_refl _) A).alloc (by simp) B).trans (hb.mono (by simp;omega))
theorem two_size {w w1:World} {A B:Obj} (hb:Below ((w.alloc A).alloc B).heap.size ((w.alloc A).alloc B) w1):w.heap.size+2≤w1.heap.size:=by
 have:=hb.size;simpa using this
theorem one_cell {w w1:World} {cs:Array Value} {t:TypeId} (hb:Below (w.alloc (.cells cs t)).heap.size (w.alloc (.cells cs t)) w1) (i:Nat) {v:Value} (h:cs[i]?=some v):w1.cell? ⟨w.heap.size,i,none⟩=some v:=by
 rw[Below.cell hb (p:=⟨w.heap.size,i,none⟩) (by simp)]
 exact box_cell w cs t i h
theorem one_below {w w1:World} {A:Obj} (hb:Below (w.alloc A).heap.size (w.alloc A) w1):Below w.heap.size w w1:=
 ((Below.refl w.heap.size w).alloc (Nat.le_refl _) A).trans (hb.mono (by simp))
theorem one_size {w w1:World} {A:Obj} (hb:Below (w.alloc A).heap.size (w.alloc A) w1):w.heap.size+1≤w1.heap.size:=by
 have:=hb.size;simpa using this
theorem two_five {w w1:World} {a0 a1 a2 a3 a4:Value} {t u:TypeId} {ds:Array Value} (hb:Below ((w.alloc (.cells #[a0,a1,a2,a3,a4] t)).alloc (.cells ds u)).heap.size ((w.alloc (.cells #[a0,a1,a2,a3,a4] t)).alloc (.cells ds u)) w1) :
  w1.cell? ⟨w.heap.size,0,none⟩=some a0∧w1.cell? ⟨w.heap.size,1,none⟩=some a1∧w1.cell? ⟨w.heap.size,2,none⟩=some a2∧w1.cell? ⟨w.heap.size,3,none⟩=some a3∧w1.cell? ⟨w.heap.size,4,none⟩=some a4:=
 ⟨two_cell1 hb 0 rfl,two_cell1 hb 1 rfl,two_cell1 hb 2 rfl,two_cell1 hb 3 rfl,two_cell1 hb 4 rfl⟩
theorem two_five2 {w w1:World} {a0 a1 a2 a3 a4:Value} {t u:TypeId} {ds:Array Value} (hb:Below ((w.alloc (.cells ds u)).alloc (.cells #[a0,a1,a2,a3,a4] t)).heap.size ((w.alloc (.cells ds u)).alloc (.cells #[a0,a1,a2,a3,a4] t)) w1) :
  w1.cell? ⟨w.heap.size+1,0,none⟩=some a0∧w1.cell? ⟨w.heap.size+1,1,none⟩=some a1∧w1.cell? ⟨w.heap.size+1,2,none⟩=some a2∧w1.cell? ⟨w.heap.size+1,3,none⟩=some a3∧w1.cell? ⟨w.heap.size+1,4,none⟩=some a4:=
 ⟨two_cell2 hb 0 rfl,two_cell2 hb 1 rfl,two_cell2 hb 2 rfl,two_cell2 hb 3 rfl,two_cell2 hb 4 rfl⟩
theorem two_one2 {w w1:World} {a0:Value} {t u:TypeId} {ds:Array Value} (hb:Below ((w.alloc (.cells ds u)).alloc (.cells #[a0] t)).heap.size ((w.alloc (.cells ds u)).alloc (.cells #[a0] t)) w1) :
  w1.cell? ⟨w.heap.size+1,0,none⟩=some a0:=two_cell2 hb 0 rfl
theorem one_five {w w1:World} {a0 a1 a2 a3 a4:Value} {t:TypeId} (hb:Below (w.alloc (.cells #[a0,a1,a2,a3,a4] t)).heap.size (w.alloc (.cells #[a0,a1,a2,a3,a4] t)) w1) :
  w1.cell? ⟨w.heap.size,0,none⟩=some a0∧w1.cell? ⟨w.heap.size,1,none⟩=some a1∧w1.cell? ⟨w.heap.size,2,none⟩=some a2∧w1.cell? ⟨w.heap.size,3,none⟩=some a3∧w1.cell? ⟨w.heap.size,4,none⟩=some a4:=
 ⟨one_cell hb 0 rfl,one_cell hb 1 rfl,one_cell hb 2 rfl,one_cell hb 3 rfl,one_cell hb 4 rfl⟩
theorem cell_lt {w:World} {b o:Nat} {v:Value} (h:w.cell? ⟨b,o,none⟩=some v):b<w.heap.size:=by
 unfold World.cell? at h
 split at h
 ·rename_i he
  exact (Array.getElem?_eq_some_iff.1 he).1
 ·cases h
theorem agg_of {w:World} {B:Nat} {x:Dat} {v:Value} (h:RepD w B x v):∃(k n d:Int) (s:ByteArray) (o:Option Addr) (len cap:Nat),v=.agg #[.int .i64 k,.int .i64 n,.int .i64 d,.string s,.slice o len cap]:=by
 obtain ⟨k,n,d,s,l⟩:=x
 obtain ⟨sl,rfl,_,_,_,_,o,len,cap,rfl,_⟩:=h.open
 exact ⟨k,n,d,s,o,len,cap,rfl⟩
end
section
open Go.RowKit
theorem rep_mono {w w':World} {B:Nat} (hk:∀b o v,w.cell? ⟨b,o,none⟩=some v→w'.cell? ⟨b,o,none⟩=some v) :
  (∀x v,RepD w B x v→RepD w' B x v)∧(∀l b off,RepC w B l b off→RepC w' B l b off):=by
 have both:(∀x:Dat,∀v,RepD w B x v→RepD w' B x v):=by
  intro x
  refine Dat.rec (motive_1:=fun x=>∀v,RepD w B x v→RepD w' B x v) (motive_2:=fun l=>∀b off,RepC w B l b off→RepC w' B l b off) ?_ ?_ ?_ x
  ·intro k n d s l ih v h
   rw[RepD] at h ⊢
   obtain ⟨o,len,cap,rfl,h1,h2,h3,h4,h5,h6,h7,h8⟩:=h
   refine ⟨o,len,cap,rfl,h1,h2,h3,h4,h5,h6,h7,?_⟩
   cases o with
   | none=>exact h8
   | some a=>exact ⟨h8.1,ih _ _ h8.2⟩
  ·intro b off _;rw[RepC];trivial
  ·intro x l ihx ihl b off h
   rw[RepC] at h ⊢
   obtain ⟨⟨c0,c1,c2,c3,c4,h0,h1,h2,h3,h4,h5⟩,h6⟩:=h
   exact ⟨⟨c0,c1,c2,c3,c4,hk _ _ _ h0,hk _ _ _ h1,hk _ _ _ h2,hk _ _ _ h3,hk _ _ _ h4,ihx _ h5⟩,ihl _ _ h6⟩
 refine ⟨both,?_⟩
 intro l
 induction l with
 | nil=>intro b off _;rw[RepC];trivial
 | cons x l ih=>
  intro b off h
  rw[RepC] at h ⊢
  obtain ⟨⟨c0,c1,c2,c3,c4,h0,h1,h2,h3,h4,h5⟩,h6⟩:=h
  exact ⟨⟨c0,c1,c2,c3,c4,hk _ _ _ h0,hk _ _ _ h1,hk _ _ _ h2,hk _ _ _ h3,hk _ _ _ h4,both _ _ h5⟩,ih _ _ h6⟩
theorem RepS.mono {w w':World} {B:Nat} {l:List Dat} {v:Value} (hk:∀b o v,w.cell? ⟨b,o,none⟩=some v→w'.cell? ⟨b,o,none⟩=some v) (h:RepS w B l v):RepS w' B l v:=by
 obtain ⟨o,len,cap,rfl,h1,h2,h3,h4⟩:=h
 refine ⟨o,len,cap,rfl,h1,h2,h3,?_⟩
 cases o with
 | none=>exact h4
 | some a=>exact ⟨h4.1,(rep_mono hk).2 _ _ _ h4.2⟩
end
section
open Go.RowKit
theorem bytes_of (w:World) (s:ByteArray):∃C W1,(convert 9 119 (.string s)).run Tryz.prog w=.ok (.slice (some ⟨w.heap.size,0,none⟩) s.size C) W1∧Below w.heap.size w W1∧(∀j,j<s.size→W1.cell? ⟨w.heap.size,j,none⟩=some (.int .u8 (s.data.toList.getD j 0).toNat)):=by
 refine ⟨_,_,Lib.run_convert_string_bytes (P:=Tryz.prog) w 9 119 5 s Tryz.underlying9 Tryz.underlying119 Tryz.underlying5,?_,?_⟩
 ·exact ⟨rfl,rfl,rfl,by rw[Lib.bytesWorld_size];omega,fun k hk=>Lib.bytesWorld_at_old _ _ _ _ hk⟩
 ·intro j hj;exact Lib.bytesWorld_cell _ _ _ _ hj
theorem all_take_succ {p:UInt8→Bool} {l:List UInt8} {j:Nat} (hj:j<l.length) (h:(l.take j).all p=true) (hp:p (l.getD j 0)=true):(l.take (j+1)).all p=true:=by
 have e:l.take (j+1)=l.take j++[l.getD j 0]:=by
  rw[List.take_add_one,List.getElem?_eq_getElem hj,List.getD_eq_getElem?_getD,List.getElem?_eq_getElem hj];rfl
 rw[e,List.all_append,h,List.all_cons,hp];rfl
theorem all_false {p:UInt8→Bool} {l:List UInt8} {j:Nat} (hj:j<l.length) (hp:p (l.getD j 0)=false):l.all p=false:=by
 have hm:l.getD j 0∈l:=by
  rw[List.getD_eq_getElem?_getD,List.getElem?_eq_getElem hj];exact List.getElem_mem _
 cases h:l.all p with
 | false=>rfl
 | true=>rw[List.all_eq_true.1 h _ hm] at hp;cases hp
theorem strok_any (s:ByteArray) (hs:s.size≤140737488351232) (w:World) :
  Calls Tryz.prog 110 #[.string s] w fun e w'=>e=.returned (.bool (s.data.toList.all Dat.strByte))∧Below w.heap.size w w':=by
 have hl:s.data.toList.length=s.size:=rfl
 obtain ⟨r,hr⟩:∃r,s.data.toList.all Dat.strByte=r:=⟨_,rfl⟩
 rw[hr]
 have HR:=Lib.hid hr
 clear hr
 obtain ⟨C,W1,hcv,hb,hcell⟩:=bytes_of w s
 have HC:=Lib.hid hcell
 have HB:=Lib.hid hb
 clear hcell hb
 go_enter Tryz.func110,Tryz.ntmps110
 go_wp2
 clear hcv
 go_loop [8] (fun i=>∃j:Nat,i=.int .i64 j∧j≤s.size∧(s.data.toList.take j).all Dat.strByte=true) (fun i=>s.size-(intOf i).toNat)
 case atStart=>exact ⟨0,rfl,by omega,rfl⟩
 case round=>
  obtain ⟨j,rfl,hj,hall⟩:=hrel
  have HA:=Lib.hid hall
  clear hall
  by_cases hjs:j<s.size
  ·have hc:=HC.out j hjs
   obtain ⟨b,hbb⟩:∃b,s.data.toList.getD j 0=b:=⟨_,rfl⟩
   rw[hbb] at hc
   have HBB:=Lib.hid hbb
   clear hbb
   have h256:b.toNat<256:=b.toNat_lt
   cases hok:Dat.strByte b with
   | true=>
    have hk:=hok
    simp only[Dat.strByte,Bool.and_eq_true,decide_eq_true_eq] at hk
    obtain ⟨k1,k2,k3,k4⟩:=hk
    have m1:((b.toNat:Int)==34)=false:=by simp;omega
    have m2:((b.toNat:Int)==92)=false:=by simp;omega
    have HN:=Lib.hid (all_take_succ (by rw[hl];exact hjs) HA.out (by rw[HBB.out];exact hok))
    clear hok k3 k4
    go_wp2
    go_round
    case rel=>exact ⟨j+1,by go_num,by omega,HN.out⟩
    case measure=>simp[intOf];omega
   | false=>
    have HF:=Lib.hid (all_false (p:=Dat.strByte) (by rw[hl];exact hjs) (by rw[HBB.out];exact hok))
    have hk:b.toNat<32∨126<b.toNat∨b.toNat=34∨b.toNat=92:=by
     apply Decidable.byContradiction
     intro h
     have:Dat.strByte b=true:=by
      simp only[Dat.strByte,Bool.and_eq_true,decide_eq_true_eq];omega
     rw[this] at hok;cases hok
    clear hok
    by_cases p1:b.toNat<32
    ·clear hk
     go_wp2
     go_ret
     exact ⟨ret_bool (by rw[←HR.out,HF.out]),HB.out⟩
    by_cases p2:126<b.toNat
    ·clear hk
     go_wp2
     go_ret
     exact ⟨ret_bool (by rw[←HR.out,HF.out]),HB.out⟩
    by_cases p3:b.toNat=34
    ·have m1:((b.toNat:Int)==34)=true:=by simp;omega
     have P3:=Lib.hid p3
     clear hk p3
     go_wp2
     go_ret
     exact ⟨ret_bool (by rw[←HR.out,HF.out]),HB.out⟩
    ·have m1:((b.toNat:Int)==34)=false:=by simp;omega
     have m2:((b.toNat:Int)==92)=true:=by simp;omega
     clear hk p3
     go_wp2
     go_ret
     exact ⟨ret_bool (by rw[←HR.out,HF.out]),HB.out⟩
  ·have HF:=Lib.hid (show s.data.toList.all Dat.strByte=true by rw[←HA.out,List.take_of_length_le (by rw[hl];omega)])
   go_wp2
   go_ret
   exact ⟨ret_bool (by rw[←HR.out,HF.out]),HB.out⟩
theorem mark_iff (b:UInt8):(Lib.indexByte Dat.marks b<0↔Dat.nameByte b=false):=by
 unfold Dat.nameByte
 rw[Lib.contains_iff_indexByte]
 simp
theorem mark_any (b:UInt8) (w:World):Calls Tryz.prog 160 #[.string ⟨#[97,98,99,100,101,102,103,104,105,106,107,108,109,110,111,112,113,114,115,116,117,118,119,120,121,122,48,49,50,51,52,53,54,55,56,57,45,43,42,47,60,62,61,33,63,95,37]⟩,.int .u8 b.toNat] w fun e w'=>e=.returned (.int .i64 (Lib.indexByte Dat.marks b))∧w'=w:=by
 have:=Tryz.strings_IndexByte ⟨#[97,98,99,100,101,102,103,104,105,106,107,108,109,110,111,112,113,114,115,116,117,118,119,120,121,122,48,49,50,51,52,53,54,55,56,57,45,43,42,47,60,62,61,33,63,95,37]⟩ b.toNat w
 refine this.mono ?_
 rintro e w' ⟨rfl,rfl⟩
 refine ⟨?_,rfl⟩
 simp
 rfl
theorem plain_any (s:ByteArray) (hs:s.size≤140737488351232) (w:World) :
  Calls Tryz.prog 136 #[.string s] w fun e w'=>e=.returned (.bool (s.data.toList.all Dat.nameByte))∧Below w.heap.size w w':=by
 have hl:s.data.toList.length=s.size:=rfl
 obtain ⟨r,hr⟩:∃r,s.data.toList.all Dat.nameByte=r:=⟨_,rfl⟩
 rw[hr]
 have HR:=Lib.hid hr
 clear hr
 obtain ⟨C,W1,hcv,hb,hcell⟩:=bytes_of w s
 have HC:=Lib.hid hcell
 have HB:=Lib.hid hb
 clear hcell hb
 go_enter Tryz.func136,Tryz.ntmps136
 go_wp2
 clear hcv
 go_loop [8] (fun i=>∃j:Nat,i=.int .i64 j∧j≤s.size∧(s.data.toList.take j).all Dat.nameByte=true) (fun i=>s.size-(intOf i).toNat)
 case atStart=>exact ⟨0,rfl,by omega,rfl⟩
 case round=>
  obtain ⟨j,rfl,hj,hall⟩:=hrel
  have HA:=Lib.hid hall
  clear hall
  by_cases hjs:j<s.size
  ·have hc:=HC.out j hjs
   obtain ⟨b,hbb⟩:∃b,s.data.toList.getD j 0=b:=⟨_,rfl⟩
   rw[hbb] at hc
   have HBB:=Lib.hid hbb
   clear hbb
   have hM:=mark_any b
   have hi:=mark_iff b
   generalize Lib.indexByte Dat.marks b=q at hM hi
   have HM:=Lib.hid hM
   clear hM
   cases hok:Dat.nameByte b with
   | true=>
    rw[hok] at hi
    have hq:¬q<0:=by intro h;exact absurd (hi.1 h) (by simp)
    have HN:=Lib.hid (all_take_succ (by rw[hl];exact hjs) HA.out (by rw[HBB.out];exact hok))
    clear hok hi
    go_wp2_with (first | (go_at_call 160;refine (HM.out _).mono ?_;rintro e' w1 ⟨rfl,rfl⟩))
    go_round
    case rel=>exact ⟨j+1,by go_num,by omega,HN.out⟩
    case measure=>simp[intOf];omega
   | false=>
    rw[hok] at hi
    have hq:q<0:=hi.2 rfl
    have HF:=Lib.hid (all_false (p:=Dat.nameByte) (by rw[hl];exact hjs) (by rw[HBB.out];exact hok))
    clear hok hi
    go_wp2_with (first | (go_at_call 160;refine (HM.out _).mono ?_;rintro e' w1 ⟨rfl,rfl⟩))
    go_ret
    exact ⟨ret_bool (by rw[←HR.out,HF.out]),HB.out⟩
  ·have HF:=Lib.hid (show s.data.toList.all Dat.nameByte=true by rw[←HA.out,List.take_of_length_le (by rw[hl];omega)])
   go_wp2
   go_ret
   exact ⟨ret_bool (by rw[←HR.out,HF.out]),HB.out⟩
end
section
open Go.RowKit
theorem trim_marks (s:ByteArray) (T:List UInt8) (hs:s.size≤9223372036854775807) (hT:Lib.trimS s.data.toList Dat.marks=T) (w:World) :
  Calls Tryz.prog 135 #[.string s,.string ⟨#[97,98,99,100,101,102,103,104,105,106,107,108,109,110,111,112,113,114,115,116,117,118,119,120,121,122,48,49,50,51,52,53,54,55,56,57,45,43,42,47,60,62,61,33,63,95,37]⟩] w fun e w'=>e=.returned (.string ⟨T.toArray⟩)∧Below w.heap.size w w':=by
 have:=trim_any s ⟨#[97,98,99,100,101,102,103,104,105,106,107,108,109,110,111,112,113,114,115,116,117,118,119,120,121,122,48,49,50,51,52,53,54,55,56,57,45,43,42,47,60,62,61,33,63,95,37]⟩ hs (by decide) (by decide +kernel) w
 rw[show (⟨#[97,98,99,100,101,102,103,104,105,106,107,108,109,110,111,112,113,114,115,116,117,118,119,120,121,122,48,49,50,51,52,53,54,55,56,57,45,43,42,47,60,62,61,33,63,95,37]⟩:ByteArray).data.toList=Dat.marks from rfl,hT] at this
 exact this
theorem plain_to (s:ByteArray) (r:Bool) (hr:s.data.toList.all Dat.nameByte=r) (hs:s.size≤140737488351232) (w:World) :
  Calls Tryz.prog 136 #[.string s] w fun e w'=>e=.returned (.bool r)∧Below w.heap.size w w':=by
 rw[←hr];exact plain_any s hs w
theorem parse_to (s:ByteArray) (x y:Int) (z:Bool) (hp:Num.parse s.data.toList=(x,y,z)) (hs:s.size≤9223372036854775806) (w:World) :
  Calls Tryz.prog 137 #[.string s] w fun e w'=>e=.returned (.tuple #[.int .i64 x,.int .i64 y,.bool z])∧Below w.heap.size w w':=by
 have:=parse_any s hs w
 rw[hp] at this;exact this
theorem name_any (s:ByteArray) (hs:s.size≤140737488351232) (w:World) :
  Calls Tryz.prog 109 #[.string s] w fun e w'=>e=.returned (.bool (Dat.name s.data.toList))∧Below w.heap.size w w':=by
 have hl:s.data.toList.length=s.size:=rfl
 obtain ⟨r,hr⟩:∃r,Dat.name s.data.toList=r:=⟨_,rfl⟩
 rw[hr]
 unfold Dat.name at hr
 rw[hl] at hr
 by_cases h0:s.size=0
 ·have HR:=Lib.hid (show r=false by rw[←hr,h0];rfl)
  clear hr
  go_enter Tryz.func109,Tryz.ntmps109
  go_wp2
  go_ret
  exact ⟨ret_bool HR.out.symm,Below.self _⟩
 have hne:¬s=ByteArray.empty:=by rintro rfl;simp at h0
 have hz:((s.size:Int)==0)=false:=by simpa using hne
 by_cases h40:40<s.size
 ·have HR:=Lib.hid (show r=false by rw[←hr,decide_eq_false (by omega:¬s.size≤40)];simp)
  clear hr
  go_enter Tryz.func109,Tryz.ntmps109
  go_wp2
  go_ret
  exact ⟨ret_bool HR.out.symm,Below.self _⟩
 rw[decide_eq_true (by omega:1≤s.size),decide_eq_true (by omega:s.size≤40)] at hr
 simp only[Bool.true_and] at hr
 obtain ⟨T,hT⟩:∃T,Lib.trimS s.data.toList Dat.marks=T:=⟨_,rfl⟩
 have hall:s.data.toList.all Dat.nameByte=T.isEmpty:=by
  rw[Bool.eq_iff_iff,List.all_eq_true,List.isEmpty_iff,←hT,Num.trimS_nil]
  exact Iff.rfl
 cases he:T.isEmpty with
 | false=>
  have HR:=Lib.hid (show r=false by rw[←hr,hall,he];rfl)
  have HT:=Lib.hid hT
  clear hr hall hT
  go_enter Tryz.func109,Tryz.ntmps109
  go_wp2_with (first | (go_at_call 135;refine (trim_marks s T (by omega) HT.out _).mono ?_;rintro e' w1 ⟨rfl,hb⟩))
  go_ret
  exact ⟨ret_bool HR.out.symm,hb⟩
 | true=>
  rw[List.isEmpty_iff] at he
  subst he
  obtain ⟨x,y,z,hp⟩:∃x y z,Num.parse s.data.toList=(x,y,z):=⟨_,_,_,rfl⟩
  have HR:=Lib.hid (show r = !z by rw[←hr,hall,hp];rfl)
  have HT:=Lib.hid hT
  have HA:=Lib.hid (show s.data.toList.all Dat.nameByte=true by rw[hall];rfl)
  have HP:=Lib.hid hp
  clear hr hall hT hp
  go_enter Tryz.func109,Tryz.ntmps109
  go_wp2_with (first | (go_at_call 135;refine (trim_marks s [] (by omega) HT.out _).mono ?_;rintro e' w1 ⟨rfl,hb⟩) | (go_at_call 136;refine (plain_to s true HA.out hs _).mono ?_;rintro e' w2 ⟨rfl,hb2⟩) | (go_at_call 137;refine (parse_to s x y z HP.out (by omega) _).mono ?_;rintro e' w3 ⟨rfl,hb3⟩))
  go_ret
  exact ⟨ret_bool HR.out.symm,Below.next (Below.next hb hb2) hb3⟩
end
section
open Go.RowKit
namespace Num
def part (l:List UInt8):Int × Int:=
 if 10<(l.takeWhile isDigit).length then (0,0) else (((Lib.decFrom 0 (l.takeWhile isDigit)).getD 0:Nat),((l.takeWhile isDigit).length:Nat))
end Num
end
section
open Go.RowKit
namespace Num
end Num
end
section
open Go.RowKit
end
end Go.Proofs.YtgbibibmpoekiaaGreatDoor
