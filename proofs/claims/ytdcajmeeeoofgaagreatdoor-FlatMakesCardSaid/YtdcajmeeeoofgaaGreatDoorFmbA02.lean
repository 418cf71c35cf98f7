/- .. -/
import Derived.Deep.WholeRow
import Derived.Laws.Rows
import Derived.Laws.ResultCell
import Derived.Deep.Quiet
import Derived.StillTail
import Derived.BigQuiet
import Derived.RangeFuncBox
import Derived.Lib.ConvBytes
import Derived.Lib.IndexAny
import Derived.Test.YtdcajmeeeoofgaaGreatDoorRows
import Derived.WalkKit
import Derived.ProofKit
import Derived.OpenShut
import Derived.Carry
import Derived.Deep.Draws
import Derived.Deep.DeepHandedRow
import Derived.Deep.DeepWitnessRowRef
import Derived.LaidMore
import Derived.LaidHandle
import Derived.MakeChecks
import Derived.Stop.LaidErr
import Derived.Stop.Joined
import Derived.SevenTiedAt
import Derived.Deep.Slices
import Derived.SizedLaws
import Derived.Lib.ItoaLen
import Derived.Test.YtdcajmeeeoofgaaGreatDoorFmbA01
open Go.Proofs.Tryz
set_option maxRecDepth 100000
set_option maxHeartbeats 16000000
namespace Go.Proofs.YtdcajmeeeoofgaaGreatDoor
section
open Go.RowKit
def factC (f:Fact):List Value:=[.string f.name,.int .i64 f.least,.int .i64 f.most,.bool f.pure,.bool f.folds]
def factV (f:Fact):Value:=.agg (factC f).toArray
def tableC:List Value:=Prims.table.flatMap factC
def tableA:Array Value:=tableC.toArray
theorem zbK:tableA.size=155:=by kernel_rfl
theorem zge:tableA.all (·.oneCell')=true:=by kernel_rfl
theorem ziz (w:World):Calls prog 89 #[] w fun e w'=>e=.returned (.agg tableA)∧Below w.heap.size w w':=by
 go_enter func89,ntmps89
 go_wp2_with fail
 generalize hL:List.set _ 154 (Value.bool false)=V
 have hV:V=tableA.toList:=by rw[←hL];kernel_rfl
 subst hV
 clear hL
 have hst:=run_storeCells_new (P:=prog) w 128 zeroCells128 tableA (by kernel_rfl) (by rw[zbK];exact zeroCells128_size) zge
 rw[hst]
 simp only[Result.andThen]
 rw[Oper.upon_skip]
 generalize Value.agg (Array.setIfInBounds _ 154 (Value.bool false))=X
 have hld:=run_loadVar_new (P:=prog) w 128 tableA 31 105 underlying128 (by rw[zbK];kernel_rfl)
 go_wp2
 refine bodyPost_ret (v:=.agg tableA) ?_ rfl ⟨rfl,(Below.refl _ _).alloc (Nat.le_refl _) _⟩
 exact results_cell_row rfl _ _ w.heap.size 128 tableA (0,0) _ rfl (heap_alloc_last w _) underlying128 rfl (by rw[zbK];kernel_rfl)
end
section
open Go
section
variable {P : Program} {ops : Array Oper} {md : Region.Mode} {C : World → Prop}
def headAny (P:Program) (md:Region.Mode) (ops:Array Oper) (C:World→Prop) (n:Nat) (L:Array Bool→Act→Prop):Nat→Array Bool→Act→Prop
 | 0,listed,a=>L listed a
 | f+1,listed,a=>Region.ready md ops listed≠[]∧∀i∈Region.ready md ops listed,i<n∧qOp P ops C i (headAny P md ops C n L f (listed.setIfInBounds i true)) a
theorem zbO {n g:Nat} {L:Array Bool→Act→Prop} {Q':Exit→Act→World→Prop} (hL:∀listed a w,C w→L listed a→wpAny P md ops Q' g listed a w) :
  ∀(f:Nat) (listed:Array Bool) (a:Act) (w:World),C w→headAny P md ops C n L f listed a→wpAny P md ops Q' (f+g) listed a w
 | 0,listed,a,w,hC,h=>by rw[Nat.zero_add];exact hL _ _ _ hC h
 | f+1,listed,a,w,hC,h=>by
  rw[show f+1+g=(f+g)+1 by omega]
  exact ⟨fun h0=>absurd h0 h.1,fun i hi=>wpOp_of_qOp hC (fun a' w' hC' h'=>zbO hL f _ a' w' hC' h') (h.2 i hi).2⟩
theorem zgF {n i:Nat} {oi:Oper} {v:Value} {L:Array Bool→Act→Prop} (hi:ops[i]?=some oi) (hsel:∀(j:Nat) (o:Oper) cs b,ops[j]?=some o→o.op≠.select cs b)
  (hs:Region.sinkB md ops n=true) (hc:Region.chainB md ops n=true) (hn:n<ops.size) (hin:i<n) (hdone:∀listed a,L listed a→∀j∈Region.ready md ops listed,n≤j) :
  ∀(f:Nat) (listed:Array Bool) (a:Act),HeadInv md ops n listed →
   (∀j oj,ops[j]?=some oj→j≠i→listed.getD j true=false→(∀e∈oj.after,Region.binds md e=true→e.on≠i)→oi.apart ops oj=true) →
   i∈Region.ready md ops listed→YieldsIn P ops C oi v a →
   headAny P md ops C n L f (listed.setIfInBounds i true) (a.put oi.dst v)→headAny P md ops C n L (f+1) listed a:=by
 intro f
 induction f with
 | zero=>
  intro listed a inv _ hr hy H
  have hun:=(mem_ready.1 hr).1
  refine ⟨fun h=>(by rw[h] at hr;cases hr),fun j hj=>?_⟩
  have hjn:j<n:=by
   rcases Nat.lt_or_ge j n with h | h
   ·exact h
   ·exact absurd hj (tail_waits hs hc hn inv _ i rfl hin hun j h)
  refine ⟨hjn,?_⟩
  by_cases hji:j=i
  ·subst hji;exact hy.qOp hi H
  ·have:=hdone _ _ H j (ready_mono hj hji)
   omega
 | succ f ih=>
  intro listed a inv hfree hr hy H
  have hun:=(mem_ready.1 hr).1
  refine ⟨fun h=>(by rw[h] at hr;cases hr),fun j hj=>?_⟩
  have hjn:j<n:=by
   rcases Nat.lt_or_ge j n with h | h
   ·exact h
   ·exact absurd hj (tail_waits hs hc hn inv _ i rfl hin hun j h)
  refine ⟨hjn,?_⟩
  by_cases hji:j=i
  ·subst hji;exact hy.qOp hi H
  ·have h1:=(H.2 j (ready_mono hj hji)).2
   obtain ⟨hjun,oj,hoj,hall⟩:=mem_ready.1 hj
   have hnot:∀e∈oj.after,Region.binds md e=true→e.on≠i:=fun e he hb heq=>by
    have h1:=hall e he hb
    rw[heq,getD_both hun] at h1
    cases h1
   have h2:=qOp_put hoj (hfree j oj hoj hji hjun hnot) (fun cs b=>hsel i oi cs b hi) (fun cs b=>hsel j oj cs b hoj) hy h1
   have hfree':∀k ok,ops[k]?=some ok→k≠i→(listed.setIfInBounds j true).getD k true=false→(∀e∈ok.after,Region.binds md e=true→e.on≠i)→oi.apart ops ok=true:=fun k ok hk hki hunk hno=>by
    refine hfree k ok hk hki ?_ hno
    by_cases hjk:j=k
    ·subst hjk;exact hjun
    ·rw[getD_set_ne true hjk] at hunk;exact hunk
   refine qOp_mono (fun a' h3=>ih (listed.setIfInBounds j true) a' (inv.set hj hjn) hfree' (ready_mono hr (Ne.symm hji)) h3.1 ?_) h2
   rw[Array.setIfInBounds_comm _ _ hji]
   exact h3.2
theorem zfa {n g:Nat} {Lq:Act→Prop} (hsel:Region.noSelect ops=true) (hs:Region.sinkB md ops n=true) (hc:Region.chainB md ops n=true) (hn:n<ops.size) :
  ∀(l:List Oper) (k:Nat) (listed:Array Bool) (a:Act),(∀j,j<l.length→l[j]?=ops[k+j]?)→k+l.length=n→HeadInv md ops n listed →
  Region.lexHead md ops g l.length k listed=true→wpQuiet P ops C Lq l a →
  headAny P md ops C n (fun listed' a'=>Region.seqB md ops g n listed'=true∧Lq a') l.length listed a
 | [],k,listed,a,_,hk,_,hB,h=>by
  have:k=n:=by simpa using hk
  subst this
  exact ⟨by simpa[Region.lexHead] using hB,h⟩
 | o::l,k,listed,a,hl,hk,inv,hB,h=>by
  have h0:ops[k]?=some o:=by simpa using (hl 0 (by simp)).symm
  simp only[List.length_cons,Region.lexHead,Bool.and_eq_true] at hB
  obtain ⟨⟨hr,hf⟩,hB'⟩:=hB
  have hkn:k<n:=by simp only[List.length_cons] at hk;omega
  have hr':k∈Region.ready md ops listed:=by simpa using hr
  have hst:qOp P ops C k (wpQuiet P ops C Lq l) a:=by unfold qOp;simp only[h0];exact h
  obtain ⟨v,hy,hK⟩:=yieldsIn_of_qOp h0 hst
  exact zgF h0 (Region.noSelect_spec hsel) hs hc hn hkn (fun listed' a' hL=>seqB_ready hL.1) l.length listed a inv (Region.free_spec h0 hf) hr' hy
   (zfa hsel hs hc hn l (k+1) _ _ (fun j hj=>by have:=hl (j+1) (by simp;omega);simpa[Nat.add_assoc,Nat.add_comm 1 j] using this) (by simp only[List.length_cons] at hk;omega) (inv.set hr' hkn) hB' hK)
theorem zbG {id:Nat} {Q:Exit→Act→World→Prop} {a:Act} {w:World} {l:List Oper} (C:World→Prop) (n:Nat) (hm:P.follows .mixedOrders=true) (hB:Region.lexTailB .any l.toArray n=true) (hC:C w.drew)
  (h:wpQuiet P l.toArray C (fun a'=>∀w',C w'→wpList P l.toArray Q (l.drop n) a' w') (l.take n) a):(Code.region id l.toArray true).wp P Q a w:=by
 simp only[Region.lexTailB,Bool.and_eq_true,decide_eq_true_eq] at hB
 obtain ⟨⟨⟨⟨hsel,hn⟩,hs⟩,hc⟩,hlex⟩:=hB
 have hn':n<l.length:=by simpa using hn
 have htl:(l.take n).length=n:=by simp;omega
 have hdl:(l.drop n).length=l.toArray.size-n:=by simp
 have inv0:HeadInv .any l.toArray n (Array.replicate l.toArray.size false):=
  ⟨by simp,fun j oj _ hl=>(by rw[getD_replicate_false] at hl;cases hl),fun t _ ht=>getD_in (by simpa using ht) (getD_replicate_false _ _)⟩
 have H:=zfa (md:=.any) (g:=l.toArray.size-n) hsel hs hc hn (l.take n) 0 _ a (fun j hj=>by
  have hj':j<n:=by rw[htl] at hj;exact hj
  simp[hj']) (by simpa using htl) inv0 (by rw[htl];exact hlex) h
 refine wp_region_any hm ?_
 have:=zbO (Q':=Q) (g:=l.toArray.size-n) (fun listed a' w' hC' hL=>by
  have:=wpAny_of_seq (md:=.any) (Q':=Q) (l.drop n) n listed a' w' (fun j=>by simp[List.getElem?_drop]) (by rw[hdl];exact hL.1) (hL.2 w' hC')
  rwa[hdl] at this) _ _ _ _ hC H
 rw[htl,show n+(l.toArray.size-n)=l.toArray.size by omega] at this
 exact this
theorem zaa {id:Nat} {Q:Exit→Act→World→Prop} {a:Act} {w:World} {l:List Oper} (C:World→Prop) (n:Nat) (hm:P.follows .mixedOrders=true) (hB:Region.lexTailB .any l.toArray n=true) (hC:C w.drew)
  (h:∀(T:Type) [Nonempty T] (W:T→World),(∀t,C (W t))→(∀w',C w'→∃t,w'=W t)→wpQuiet P l.toArray (fun w'=>∃t,w'=W t) (fun a'=>∀t,wpList P l.toArray Q (l.drop n) a' (W t)) (l.take n) a):(Code.region id l.toArray true).wp P Q a w:=by
 haveI:Nonempty { w':World // C w' }:=⟨⟨_,hC⟩⟩
 have h1:=h { w':World // C w' } (fun t=>t.1) (fun t=>t.2) (fun w' hw=>⟨⟨w',hw⟩,rfl⟩)
 have e:(fun w':World=>∃t:{ w':World // C w' },w'=t.1)=C:=by
  funext w'
  exact propext ⟨fun ⟨t,ht⟩=>ht ▸ t.2,fun hw=>⟨⟨w',hw⟩,rfl⟩⟩
 rw[e] at h1
 refine zbG C n hm hB hC ?_
 have e2:(fun a'=>∀w',C w'→wpList P l.toArray Q (l.drop n) a' w')=(fun a'=>∀t:{ w':World // C w' },wpList P l.toArray Q (l.drop n) a' t.1):=by
  funext a'
  exact propext ⟨fun h t=>h t.1 t.2,fun h w' hw=>h ⟨w',hw⟩⟩
 rw[e2]
 exact h1
theorem zab {id:Nat} {Q:Exit→Act→World→Prop} {a:Act} {w:World} {l:List Oper} (C:World→Prop) (hm:P.follows .mixedOrders=true) (hB:Region.lexB .any l.toArray=true) (hC:C w.drew)
  (h:∀(T:Type) [Nonempty T] (W:T→World),(∀t,C (W t))→(∀w',C w'→∃t,w'=W t)→wpQuiet P l.toArray (fun w'=>∃t,w'=W t) (fun a'=>∀t,Q .normal a' (W t)) l a):(Code.region id l.toArray true).wp P Q a w:=by
 haveI:Nonempty { w':World // C w' }:=⟨⟨_,hC⟩⟩
 have h1:=h { w':World // C w' } (fun t=>t.1) (fun t=>t.2) (fun w' hw=>⟨⟨w',hw⟩,rfl⟩)
 have e:(fun w':World=>∃t:{ w':World // C w' },w'=t.1)=C:=by
  funext w'
  exact propext ⟨fun ⟨t,ht⟩=>ht ▸ t.2,fun hw=>⟨⟨w',hw⟩,rfl⟩⟩
 rw[e] at h1
 refine wp_region_quiet (C:=C) hm hB hC ?_
 have e2:(fun a'=>∀w',C w'→Q .normal a' w')=(fun a'=>∀t:{ w':World // C w' },Q .normal a' t.1):=by
  funext a'
  exact propext ⟨fun h t=>h t.1 t.2,fun h w' hw=>h ⟨w',hw⟩⟩
 rw[e2]
 exact h1
theorem zak {f:FuncId} {args:Array Value} {w:World} {v:Value} {T:Type} {W:T→World} (hW:∀w',C w'→∃t,w'=W t)
  (h:Calls P f args w fun e w'=>e=.returned v∧C w'):Calls P f args w fun e w'=>e=.returned v∧∃t,w'=W t:=
 h.mono fun _ _ ⟨he,hc⟩=>⟨he,hW _ hc⟩
end
end
section
open Go.RowKit
theorem zeD (w:World) (cs:Array Value) (t:TypeId) (B:Obj) (i:Nat) {v:Value} (h:cs[i]?=some v):((w.alloc (.cells cs t)).alloc B).cell? ⟨w.heap.size,i,none⟩=some v:=by
 rw[zbI ((Below.refl (w.alloc (.cells cs t)).heap.size (w.alloc (.cells cs t))).alloc (Nat.le_refl _) B) w.heap.size i (by simp)]
 exact zbf w cs t i h
def Two (w:World) (cs:Array Value) (t:TypeId) (ds:Array Value) (w':World):Prop:=Below (w.heap.size+2) ((w.alloc (.cells cs t)).alloc (.cells ds t)) w'
theorem Two.cell {w w':World} {cs ds:Array Value} {t:TypeId} (h:Two w cs t ds w') (i:Nat) {v:Value} (hv:cs[i]?=some v):w'.cell? ⟨w.heap.size,i,none⟩=some v:=by
 rw[Below.cell h (p:=⟨w.heap.size,i,none⟩) (by simp)]
 exact zeD w cs t _ i hv
theorem Two.next {w w' w'':World} {cs ds:Array Value} {t:TypeId} (h:Two w cs t ds w') (h':Below w'.heap.size w' w''):Two w cs t ds w'':=
 Below.trans h (h'.mono (by have:=Below.size h;simp at this;omega))
theorem Two.drew {w:World} {cs ds:Array Value} {t:TypeId}:Two w cs t ds ((w.alloc (.cells cs t)).alloc (.cells ds t)).drew:=(Below.refl _ _).drew
theorem Two.size {w w':World} {cs ds:Array Value} {t:TypeId} (h:Two w cs t ds w'):w.heap.size+2≤w'.heap.size:=by
 have:=Below.size h;simpa using this
theorem Two.cell2 {w w':World} {cs ds:Array Value} {t:TypeId} (h:Two w cs t ds w') (i:Nat) {v:Value} (hv:ds[i]?=some v):w'.cell? ⟨w.heap.size+1,i,none⟩=some v:=by
 rw[Below.cell h (p:=⟨w.heap.size+1,i,none⟩) (by simp)]
 have:=zbf (w.alloc (.cells cs t)) ds t i hv
 rwa[show (w.alloc (.cells cs t)).heap.size=w.heap.size+1 by simp] at this
theorem Two.free2 {w w':World} {cs ds:Array Value} {t:TypeId} (h:Two w cs t ds w') (i:Nat):w'.frozen? ⟨w.heap.size+1,i,none⟩=false:=by
 rw[Below.frozen h (p:=⟨w.heap.size+1,i,none⟩) (by simp)]
 exact World.frozen?_alloc_at (w:=w.alloc (.cells cs t)) ds t _ i (by simp)
theorem Two.five {w w':World} {cs:Array Value} {t:TypeId} {d0 d1 d2 d3 d4:Value} (h:Two w cs t #[d0,d1,d2,d3,d4] w') :
  w'.cell? ⟨w.heap.size+1,0,none⟩=some d0∧w'.cell? ⟨w.heap.size+1,1,none⟩=some d1∧w'.cell? ⟨w.heap.size+1,2,none⟩=some d2∧w'.cell? ⟨w.heap.size+1,3,none⟩=some d3∧w'.cell? ⟨w.heap.size+1,4,none⟩=some d4 ∧
   w'.frozen? ⟨w.heap.size+1,0,none⟩=false∧w'.frozen? ⟨w.heap.size+1,1,none⟩=false∧w'.frozen? ⟨w.heap.size+1,2,none⟩=false∧w'.frozen? ⟨w.heap.size+1,3,none⟩=false∧w'.frozen? ⟨w.heap.size+1,4,none⟩=false:=
 ⟨h.cell2 0 rfl,h.cell2 1 rfl,h.cell2 2 rfl,h.cell2 3 rfl,h.cell2 4 rfl,h.free2 0,h.free2 1,h.free2 2,h.free2 3,h.free2 4⟩
theorem Two.stored {w w':World} {cs ds:Array Value} {t:TypeId} (h:Two w cs t ds w') (v0 v1 v2 v3 v4:Value) :
  Below w.heap.size w (((((w'.setCell ⟨w.heap.size+1,0,none⟩ v0).setCell ⟨w.heap.size+1,1,none⟩ v1).setCell ⟨w.heap.size+1,2,none⟩ v2).setCell ⟨w.heap.size+1,3,none⟩ v3).setCell ⟨w.heap.size+1,4,none⟩ v4):=
 ((((((((Below.refl w.heap.size w).alloc (Nat.le_refl _) _).alloc (by simp) _).trans (Below.mono h (by omega))).setCell (by simp) _).setCell (by simp) _).setCell (by simp) _).setCell (by simp) _).setCell (by simp) _
theorem zbz {w w1:World} {cs ds:Array Value} {t u:TypeId} (hb:Below ((w.alloc (.cells cs t)).alloc (.cells ds u)).heap.size ((w.alloc (.cells cs t)).alloc (.cells ds u)) w1) (i:Nat) {v:Value} (h:cs[i]?=some v):w1.cell? ⟨w.heap.size,i,none⟩=some v:=by
 rw[Below.cell hb (p:=⟨w.heap.size,i,none⟩) (by simp;omega)]
 exact zeD w cs t _ i h
theorem zh8 {w w1:World} {cs ds:Array Value} {t u:TypeId} (hb:Below ((w.alloc (.cells cs t)).alloc (.cells ds u)).heap.size ((w.alloc (.cells cs t)).alloc (.cells ds u)) w1) (i:Nat) {v:Value} (h:ds[i]?=some v):w1.cell? ⟨w.heap.size+1,i,none⟩=some v:=by
 rw[Below.cell hb (p:=⟨w.heap.size+1,i,none⟩) (by simp)]
 have:=zbf (w.alloc (.cells cs t)) ds u i h
 rwa[show (w.alloc (.cells cs t)).heap.size=w.heap.size+1 by simp] at this
theorem zc5 {w w1:World} {A B:Obj} (hb:Below ((w.alloc A).alloc B).heap.size ((w.alloc A).alloc B) w1):Below w.heap.size w w1:=
 (((Below.refl w.heap.size w).alloc (Nat.le_refl _) A).alloc (by simp) B).trans (hb.mono (by simp;omega))
theorem ziF {w w1:World} {A B:Obj} (hb:Below ((w.alloc A).alloc B).heap.size ((w.alloc A).alloc B) w1):w.heap.size+2≤w1.heap.size:=by
 have:=hb.size;simpa using this
theorem zaY {w w1:World} {A:Obj} (hb:Below (w.alloc A).heap.size (w.alloc A) w1):Below w.heap.size w w1:=
 ((Below.refl w.heap.size w).alloc (Nat.le_refl _) A).trans (hb.mono (by simp))
theorem zjz {w w1:World} {a0 a1 a2 a3 a4:Value} {t u:TypeId} {ds:Array Value} (hb:Below ((w.alloc (.cells #[a0,a1,a2,a3,a4] t)).alloc (.cells ds u)).heap.size ((w.alloc (.cells #[a0,a1,a2,a3,a4] t)).alloc (.cells ds u)) w1) :
  w1.cell? ⟨w.heap.size,0,none⟩=some a0∧w1.cell? ⟨w.heap.size,1,none⟩=some a1∧w1.cell? ⟨w.heap.size,2,none⟩=some a2∧w1.cell? ⟨w.heap.size,3,none⟩=some a3∧w1.cell? ⟨w.heap.size,4,none⟩=some a4:=
 ⟨zbz hb 0 rfl,zbz hb 1 rfl,zbz hb 2 rfl,zbz hb 3 rfl,zbz hb 4 rfl⟩
theorem zkA {w w1:World} {a0:Value} {t u:TypeId} {ds:Array Value} (hb:Below ((w.alloc (.cells ds u)).alloc (.cells #[a0] t)).heap.size ((w.alloc (.cells ds u)).alloc (.cells #[a0] t)) w1) :
  w1.cell? ⟨w.heap.size+1,0,none⟩=some a0:=zh8 hb 0 rfl
theorem zac {w:World} {b o:Nat} {v:Value} (h:w.cell? ⟨b,o,none⟩=some v):b<w.heap.size:=by
 unfold World.cell? at h
 split at h
 ·rename_i he
  exact (Array.getElem?_eq_some_iff.1 he).1
 ·cases h
theorem zhV {w:World} {B:Nat} {x:Dat} {v:Value} (h:RepD w B x v):∃(k n d:Int) (s:ByteArray) (o:Option Addr) (len cap:Nat),v=.agg #[.int .i64 k,.int .i64 n,.int .i64 d,.string s,.slice o len cap]:=by
 obtain ⟨k,n,d,s,l⟩:=x
 obtain ⟨sl,rfl,_,_,_,_,o,len,cap,rfl,_⟩:=h.open
 exact ⟨k,n,d,s,o,len,cap,rfl⟩
end
section
open Go.RowKit
theorem zjW {w w':World} {B:Nat} (hk:∀b o v,w.cell? ⟨b,o,none⟩=some v→w'.cell? ⟨b,o,none⟩=some v) :
  (∀x v,RepD w B x v→RepD w' B x v)∧(∀l b off,RepC w B l b off→RepC w' B l b off):=by
 have both:(∀x:Dat,∀v,RepD w B x v→RepD w' B x v):=by
  intro x
  refine Dat.rec (motive_1:=fun x=>∀v,RepD w B x v→RepD w' B x v) (motive_2:=fun l=>∀b off,RepC w B l b off→RepC w' B l b off) ?_ ?_ ?_ x
  ·intro k n d s l ih v h
   rw[RepD] at h ⊢
   obtain ⟨o,len,cap,rfl,h1,h2,h3,h4,h5,h6,h7,h8⟩:=h
   refine ⟨o,len,cap,rfl,h1,h2,h3,h4,h5,h6,h7,?_⟩
   cases o with
   | none=>exact h8
   | some a=>exact ⟨h8.1,ih _ _ h8.2⟩
  ·intro b off _;rw[RepC];trivial
  ·intro x l ihx ihl b off h
   rw[RepC] at h ⊢
   obtain ⟨⟨c0,c1,c2,c3,c4,h0,h1,h2,h3,h4,h5⟩,h6⟩:=h
   exact ⟨⟨c0,c1,c2,c3,c4,hk _ _ _ h0,hk _ _ _ h1,hk _ _ _ h2,hk _ _ _ h3,hk _ _ _ h4,ihx _ h5⟩,ihl _ _ h6⟩
 refine ⟨both,?_⟩
 intro l
 induction l with
 | nil=>intro b off _;rw[RepC];trivial
 | cons x l ih=>
  intro b off h
  rw[RepC] at h ⊢
  obtain ⟨⟨c0,c1,c2,c3,c4,h0,h1,h2,h3,h4,h5⟩,h6⟩:=h
  exact ⟨⟨c0,c1,c2,c3,c4,hk _ _ _ h0,hk _ _ _ h1,hk _ _ _ h2,hk _ _ _ h3,hk _ _ _ h4,both _ _ h5⟩,ih _ _ h6⟩
theorem RepS.mono {w w':World} {B:Nat} {l:List Dat} {v:Value} (hk:∀b o v,w.cell? ⟨b,o,none⟩=some v→w'.cell? ⟨b,o,none⟩=some v) (h:RepS w B l v):RepS w' B l v:=by
 obtain ⟨o,len,cap,rfl,h1,h2,h3,h4⟩:=h
 refine ⟨o,len,cap,rfl,h1,h2,h3,?_⟩
 cases o with
 | none=>exact h4
 | some a=>exact ⟨h4.1,(zjW hk).2 _ _ _ h4.2⟩
def gap (W:World) (lo hi:Nat):World:={ W with heap:=W.heap.mapIdx fun i o=>if lo≤i∧i<hi then .deferred none else o }
theorem zcI {W:World} {lo hi c o:Nat} (h:¬(lo≤c∧c<hi)):(gap W lo hi).cell? ⟨c,o,none⟩=W.cell? ⟨c,o,none⟩:=by
 have e:(gap W lo hi).heap[c]?=W.heap[c]?:=by
  simp only[gap,Array.getElem?_mapIdx]
  simp only[if_neg h,Option.map_id_fun',id]
 unfold World.cell?
 rw[show (gap W lo hi).heap[({ block:=c,off:=o,spot:=none }:Addr).block]?=W.heap[c]? from e]
theorem zka {W:World} {lo hi c o:Nat} (h:lo≤c∧c<hi):(gap W lo hi).cell? ⟨c,o,none⟩=none:=by
 have e:(gap W lo hi).heap[c]?=W.heap[c]?.map fun _=>.deferred none:=by
  simp only[gap,Array.getElem?_mapIdx]
  simp only[if_pos h]
 unfold World.cell?
 rw[show (gap W lo hi).heap[({ block:=c,off:=o,spot:=none }:Addr).block]?=W.heap[c]?.map fun _=>.deferred none from e]
 cases W.heap[c]?<;>rfl
theorem zfv {W:World} {lo hi c o:Nat} {v:Value} (h:(gap W lo hi).cell? ⟨c,o,none⟩=some v):¬(lo≤c∧c<hi)∧W.cell? ⟨c,o,none⟩=some v:=by
 by_cases hc:lo≤c∧c<hi
 ·rw[zka hc] at h;cases h
 ·exact ⟨hc,by rwa[zcI hc] at h⟩
theorem RepD.dig {W:World} {lo hi B:Nat} {x:Dat} {v:Value} (h:RepD W B x v) (hb:B≤lo):RepD (gap W lo hi) B x v:=
 (zdV fun c o hc=>zcI (by omega)).1 _ _ h
end
section
open Go.RowKit
theorem zeZ (w:World) (s:ByteArray):∃C W1,(convert 9 139 (.string s)).run prog w=.ok (.slice (some ⟨w.heap.size,0,none⟩) s.size C) W1∧Below w.heap.size w W1∧(∀j,j<s.size→W1.cell? ⟨w.heap.size,j,none⟩=some (.int .u8 (s.data.toList.getD j 0).toNat)):=by
 refine ⟨_,_,Lib.run_convert_string_bytes (P:=prog) w 9 139 5 s underlying9 underlying139 underlying5,?_,?_⟩
 ·exact ⟨rfl,rfl,rfl,by rw[Lib.bytesWorld_size];omega,fun k hk=>Lib.bytesWorld_at_old _ _ _ _ hk⟩
 ·intro j hj;exact Lib.bytesWorld_cell _ _ _ _ hj
theorem zb1 {p:UInt8→Bool} {l:List UInt8} {j:Nat} (hj:j<l.length) (h:(l.take j).all p=true) (hp:p (l.getD j 0)=true):(l.take (j+1)).all p=true:=by
 have e:l.take (j+1)=l.take j++[l.getD j 0]:=by
  rw[List.take_add_one,List.getElem?_eq_getElem hj,List.getD_eq_getElem?_getD,List.getElem?_eq_getElem hj];rfl
 rw[e,List.all_append,h,List.all_cons,hp];rfl
theorem zdY {p:UInt8→Bool} {l:List UInt8} {j:Nat} (hj:j<l.length) (hp:p (l.getD j 0)=false):l.all p=false:=by
 have hm:l.getD j 0∈l:=by
  rw[List.getD_eq_getElem?_getD,List.getElem?_eq_getElem hj];exact List.getElem_mem _
 cases h:l.all p with
 | false=>rfl
 | true=>rw[List.all_eq_true.1 h _ hm] at hp;cases hp
theorem zg6 (s:ByteArray) (hs:s.size≤140737488351232) (w:World) :
  Calls prog 87 #[.string s] w fun e w'=>e=.returned (.bool (s.data.toList.all Dat.strByte))∧Below w.heap.size w w':=by
 have hl:s.data.toList.length=s.size:=rfl
 obtain ⟨r,hr⟩:∃r,s.data.toList.all Dat.strByte=r:=⟨_,rfl⟩
 rw[hr]
 have HR:=zh hr
 clear hr
 obtain ⟨C,W1,hcv,hb,hcell⟩:=zeZ w s
 have HC:=zh hcell
 have HB:=zh hb
 clear hcell hb
 go_enter func87,ntmps87
 go_wp2
 clear hcv
 go_loop [8] (fun i=>∃j:Nat,i=.int .i64 j∧j≤s.size∧(s.data.toList.take j).all Dat.strByte=true) (fun i=>s.size-(intOf i).toNat)
 case atStart=>exact ⟨0,rfl,by omega,rfl⟩
 case round=>
  obtain ⟨j,rfl,hj,hall⟩:=hrel
  have HA:=zh hall
  clear hall
  by_cases hjs:j<s.size
  ·have hc:=HC.out j hjs
   obtain ⟨b,hbb⟩:∃b,s.data.toList.getD j 0=b:=⟨_,rfl⟩
   rw[hbb] at hc
   have HBB:=zh hbb
   clear hbb
   have h256:b.toNat<256:=b.toNat_lt
   cases hok:Dat.strByte b with
   | true=>
    have hk:=hok
    simp only[Dat.strByte,Bool.and_eq_true,decide_eq_true_eq] at hk
    obtain ⟨k1,k2,k3,k4⟩:=hk
    have m1:((b.toNat:Int)==34)=false:=by simp;omega
    have m2:((b.toNat:Int)==92)=false:=by simp;omega
    have HN:=zh (zb1 (by rw[hl];exact hjs) HA.out (by rw[HBB.out];exact hok))
    clear hok k3 k4
    go_wp2
    go_round
    case rel=>exact ⟨j+1,by go_num,by omega,HN.out⟩
    case measure=>simp[intOf];omega
   | false=>
    have HF:=zh (zdY (p:=Dat.strByte) (by rw[hl];exact hjs) (by rw[HBB.out];exact hok))
    have hk:b.toNat<32∨126<b.toNat∨b.toNat=34∨b.toNat=92:=by
     apply Decidable.byContradiction
     intro h
     have:Dat.strByte b=true:=by
      simp only[Dat.strByte,Bool.and_eq_true,decide_eq_true_eq];omega
     rw[this] at hok;cases hok
    clear hok
    by_cases p1:b.toNat<32
    ·clear hk
     go_wp2
     go_ret
     exact ⟨zah (by rw[←HR.out,HF.out]),HB.out⟩
    by_cases p2:126<b.toNat
    ·clear hk
     go_wp2
     go_ret
     exact ⟨zah (by rw[←HR.out,HF.out]),HB.out⟩
    by_cases p3:b.toNat=34
    ·have m1:((b.toNat:Int)==34)=true:=by simp;omega
     have P3:=zh p3
     clear hk p3
     go_wp2
     go_ret
     exact ⟨zah (by rw[←HR.out,HF.out]),HB.out⟩
    ·have m1:((b.toNat:Int)==34)=false:=by simp;omega
     have m2:((b.toNat:Int)==92)=true:=by simp;omega
     clear hk p3
     go_wp2
     go_ret
     exact ⟨zah (by rw[←HR.out,HF.out]),HB.out⟩
  ·have HF:=zh (show s.data.toList.all Dat.strByte=true by rw[←HA.out,List.take_of_length_le (by rw[hl];omega)])
   go_wp2
   go_ret
   exact ⟨zah (by rw[←HR.out,HF.out]),HB.out⟩
theorem zkn (b:UInt8):(Lib.indexByte Dat.marks b<0↔Dat.nameByte b=false):=by
 unfold Dat.nameByte
 rw[Lib.contains_iff_indexByte]
 simp
theorem zji (b:UInt8) (w:World):Calls prog 115 #[.string ⟨#[97,98,99,100,101,102,103,104,105,106,107,108,109,110,111,112,113,114,115,116,117,118,119,120,121,122,48,49,50,51,52,53,54,55,56,57,45,43,42,47,60,62,61,33,63,95,37]⟩,.int .u8 b.toNat] w fun e w'=>e=.returned (.int .i64 (Lib.indexByte Dat.marks b))∧w'=w:=by
 have:=strings_IndexByte ⟨#[97,98,99,100,101,102,103,104,105,106,107,108,109,110,111,112,113,114,115,116,117,118,119,120,121,122,48,49,50,51,52,53,54,55,56,57,45,43,42,47,60,62,61,33,63,95,37]⟩ b.toNat w
 refine this.mono ?_
 rintro e w' ⟨rfl,rfl⟩
 refine ⟨?_,rfl⟩
 simp
 rfl
theorem zil (s:ByteArray) (hs:s.size≤140737488351232) (w:World) :
  Calls prog 102 #[.string s] w fun e w'=>e=.returned (.bool (s.data.toList.all Dat.nameByte))∧Below w.heap.size w w':=by
 have hl:s.data.toList.length=s.size:=rfl
 obtain ⟨r,hr⟩:∃r,s.data.toList.all Dat.nameByte=r:=⟨_,rfl⟩
 rw[hr]
 have HR:=zh hr
 clear hr
 obtain ⟨C,W1,hcv,hb,hcell⟩:=zeZ w s
 have HC:=zh hcell
 have HB:=zh hb
 clear hcell hb
 go_enter func102,ntmps102
 go_wp2
 clear hcv
 go_loop [8] (fun i=>∃j:Nat,i=.int .i64 j∧j≤s.size∧(s.data.toList.take j).all Dat.nameByte=true) (fun i=>s.size-(intOf i).toNat)
 case atStart=>exact ⟨0,rfl,by omega,rfl⟩
 case round=>
  obtain ⟨j,rfl,hj,hall⟩:=hrel
  have HA:=zh hall
  clear hall
  by_cases hjs:j<s.size
  ·have hc:=HC.out j hjs
   obtain ⟨b,hbb⟩:∃b,s.data.toList.getD j 0=b:=⟨_,rfl⟩
   rw[hbb] at hc
   have HBB:=zh hbb
   clear hbb
   have hM:=zji b
   have hi:=zkn b
   generalize Lib.indexByte Dat.marks b=q at hM hi
   have HM:=zh hM
   clear hM
   cases hok:Dat.nameByte b with
   | true=>
    rw[hok] at hi
    have hq:¬q<0:=by intro h;exact absurd (hi.1 h) (by simp)
    have HN:=zh (zb1 (by rw[hl];exact hjs) HA.out (by rw[HBB.out];exact hok))
    clear hok hi
    go_wp2_with (first | (go_at_call 115;refine (HM.out _).mono ?_;rintro e' w1 ⟨rfl,rfl⟩))
    go_round
    case rel=>exact ⟨j+1,by go_num,by omega,HN.out⟩
    case measure=>simp[intOf];omega
   | false=>
    rw[hok] at hi
    have hq:q<0:=hi.2 rfl
    have HF:=zh (zdY (p:=Dat.nameByte) (by rw[hl];exact hjs) (by rw[HBB.out];exact hok))
    clear hok hi
    go_wp2_with (first | (go_at_call 115;refine (HM.out _).mono ?_;rintro e' w1 ⟨rfl,rfl⟩))
    go_ret
    exact ⟨zah (by rw[←HR.out,HF.out]),HB.out⟩
  ·have HF:=zh (show s.data.toList.all Dat.nameByte=true by rw[←HA.out,List.take_of_length_le (by rw[hl];omega)])
   go_wp2
   go_ret
   exact ⟨zah (by rw[←HR.out,HF.out]),HB.out⟩
end
section
open Go.RowKit
theorem zdj (s:ByteArray) (T:List UInt8) (hs:s.size≤9223372036854775807) (hT:Lib.trimS s.data.toList Dat.marks=T) (w:World) :
  Calls prog 101 #[.string s,.string ⟨#[97,98,99,100,101,102,103,104,105,106,107,108,109,110,111,112,113,114,115,116,117,118,119,120,121,122,48,49,50,51,52,53,54,55,56,57,45,43,42,47,60,62,61,33,63,95,37]⟩] w fun e w'=>e=.returned (.string ⟨T.toArray⟩)∧Below w.heap.size w w':=by
 have:=zfi s ⟨#[97,98,99,100,101,102,103,104,105,106,107,108,109,110,111,112,113,114,115,116,117,118,119,120,121,122,48,49,50,51,52,53,54,55,56,57,45,43,42,47,60,62,61,33,63,95,37]⟩ hs (by decide) (by decide +kernel) w
 rw[show (⟨#[97,98,99,100,101,102,103,104,105,106,107,108,109,110,111,112,113,114,115,116,117,118,119,120,121,122,48,49,50,51,52,53,54,55,56,57,45,43,42,47,60,62,61,33,63,95,37]⟩:ByteArray).data.toList=Dat.marks from rfl,hT] at this
 exact this
theorem zkh (s:ByteArray) (r:Bool) (hr:s.data.toList.all Dat.nameByte=r) (hs:s.size≤140737488351232) (w:World) :
  Calls prog 102 #[.string s] w fun e w'=>e=.returned (.bool r)∧Below w.heap.size w w':=by
 rw[←hr];exact zil s hs w
theorem zjF (s:ByteArray) (x y:Int) (z:Bool) (hp:Num.parse s.data.toList=(x,y,z)) (hs:s.size≤9223372036854775806) (w:World) :
  Calls prog 103 #[.string s] w fun e w'=>e=.returned (.tuple #[.int .i64 x,.int .i64 y,.bool z])∧Below w.heap.size w w':=by
 have:=zgO s hs w
 rw[hp] at this;exact this
theorem zi0 (s:ByteArray) (hs:s.size≤140737488351232) (w:World) :
  Calls prog 86 #[.string s] w fun e w'=>e=.returned (.bool (Dat.name s.data.toList))∧Below w.heap.size w w':=by
 have hl:s.data.toList.length=s.size:=rfl
 obtain ⟨r,hr⟩:∃r,Dat.name s.data.toList=r:=⟨_,rfl⟩
 rw[hr]
 unfold Dat.name at hr
 rw[hl] at hr
 by_cases h0:s.size=0
 ·have HR:=zh (show r=false by rw[←hr,h0];rfl)
  clear hr
  go_enter func86,ntmps86
  go_wp2
  go_ret
  exact ⟨zah HR.out.symm,Below.self _⟩
 have hne:¬s=ByteArray.empty:=by rintro rfl;simp at h0
 have hz:((s.size:Int)==0)=false:=by simpa using hne
 by_cases h40:40<s.size
 ·have HR:=zh (show r=false by rw[←hr,decide_eq_false (by omega:¬s.size≤40)];simp)
  clear hr
  go_enter func86,ntmps86
  go_wp2
  go_ret
  exact ⟨zah HR.out.symm,Below.self _⟩
 rw[decide_eq_true (by omega:1≤s.size),decide_eq_true (by omega:s.size≤40)] at hr
 simp only[Bool.true_and] at hr
 obtain ⟨T,hT⟩:∃T,Lib.trimS s.data.toList Dat.marks=T:=⟨_,rfl⟩
 have hall:s.data.toList.all Dat.nameByte=T.isEmpty:=by
  rw[Bool.eq_iff_iff,List.all_eq_true,List.isEmpty_iff,←hT,Num.trimS_nil]
  exact Iff.rfl
 cases he:T.isEmpty with
 | false=>
  have HR:=zh (show r=false by rw[←hr,hall,he];rfl)
  have HT:=zh hT
  clear hr hall hT
  go_enter func86,ntmps86
  go_wp2_with (first | (go_at_call 101;refine (zdj s T (by omega) HT.out _).mono ?_;rintro e' w1 ⟨rfl,hb⟩))
  go_ret
  exact ⟨zah HR.out.symm,hb⟩
 | true=>
  rw[List.isEmpty_iff] at he
  subst he
  obtain ⟨x,y,z,hp⟩:∃x y z,Num.parse s.data.toList=(x,y,z):=⟨_,_,_,rfl⟩
  have HR:=zh (show r = !z by rw[←hr,hall,hp];rfl)
  have HT:=zh hT
  have HA:=zh (show s.data.toList.all Dat.nameByte=true by rw[hall];rfl)
  have HP:=zh hp
  clear hr hall hT hp
  go_enter func86,ntmps86
  go_wp2_with (first | (go_at_call 101;refine (zdj s [] (by omega) HT.out _).mono ?_;rintro e' w1 ⟨rfl,hb⟩) | (go_at_call 102;refine (zkh s true HA.out hs _).mono ?_;rintro e' w2 ⟨rfl,hb2⟩) | (go_at_call 103;refine (zjF s x y z HP.out (by omega) _).mono ?_;rintro e' w3 ⟨rfl,hb3⟩))
  go_ret
  exact ⟨zah HR.out.symm,Below.next (Below.next hb hb2) hb3⟩
end
section
open Go.RowKit
namespace Num
def part (l:List UInt8):Int × Int:=
 if 10<(l.takeWhile isDigit).length then (0,0) else (((Lib.decFrom 0 (l.takeWhile isDigit)).getD 0:Nat),((l.takeWhile isDigit).length:Nat))
theorem takeWhile_at (l:List UInt8) (k:Nat) (hk:k≤l.length) (h:∀b∈l.take k,isDigit b=true) (hs:∀b,l[k]?=some b→isDigit b=false):l.takeWhile isDigit=l.take k:=by
 induction l generalizing k with
 | nil=>simp
 | cons b l ih=>
  cases k with
  | zero=>
   have:=hs b rfl
   simp[this]
  | succ k=>
   simp only[List.take_succ_cons,List.mem_cons,forall_eq_or_imp] at h
   simp only[List.takeWhile_cons,h.1,if_true,List.take_succ_cons]
   rw[ih k (by simpa using hk) h.2 (fun c hc=>hs c (by simpa using hc))]
end Num
theorem zbD {a b:Int} {p:Int × Int} (h:p=(a,b)):Ending.returned (.tuple #[.int .i64 a,.int .i64 b])=.returned (.tuple #[.int .i64 p.1,.int .i64 p.2]):=by
 rw[h]
theorem zb8 {s:ByteArray} {k m:Nat} (hT:s.data.toList.takeWhile Num.isDigit=s.data.toList.take k) (hk:k≤s.size) (h10:k≤10) (hm:Lib.decFrom 0 (s.data.toList.take (min k 10))=some m) :
  Num.part s.data.toList=((m:Int),(k:Int)):=by
 have hl:(s.data.toList.take k).length=k:=by rw[List.length_take];exact Nat.min_eq_left hk
 have e:min k 10=k:=by omega
 rw[e] at hm
 unfold Num.part
 rw[hT,hl,if_neg (by omega),hm]
 rfl
theorem zdL {s:ByteArray} {k:Nat} (hT:s.data.toList.takeWhile Num.isDigit=s.data.toList.take k) (hk:k≤s.size) (h10:¬k≤10) :
  Num.part s.data.toList=(0,0):=by
 have hl:(s.data.toList.take k).length=k:=by rw[List.length_take];exact Nat.min_eq_left hk
 unfold Num.part
 rw[hT,hl,if_pos (by omega)]
theorem zho (s:ByteArray) (hs:s.size≤140737488355328) (w:World) :
  Calls prog 120 #[.string s] w fun e w'=>e=.returned (.tuple #[.int .i64 (Num.part s.data.toList).1,.int .i64 (Num.part s.data.toList).2])∧w=w':=by
 have hl:s.data.toList.length=s.size:=rfl
 go_enter func120,ntmps120
 go_wp2
 go_loop [4,5] (fun x y=>∃(k m:Nat),x=.int .i64 m∧y=.int .i64 k∧k≤s.size∧(∀b∈s.data.toList.take k,Num.isDigit b=true)∧Lib.decFrom 0 (s.data.toList.take (min k 10))=some m) (fun _ y=>s.size-(intOf y).toNat)
 case atStart=>exact ⟨0,0,rfl,rfl,by omega,by simp,rfl⟩
 case round=>
  obtain ⟨k,m,rfl,rfl,hk,hd,hm⟩:=hrel
  have hm10:m<10000000000:=by
   have:=Lib.decFrom_lt _ 0 m hm
   have hp:10 ^ (s.data.toList.take (min k 10)).length≤10 ^ 10:=Nat.pow_le_pow_right (by omega) (by rw[List.length_take];omega)
   omega
  have HM:=zh hm
  have HD:=zh hd
  clear hm hd
  by_cases hlt:k<s.size
  ·have hget:s.data.toList[k]?=some s[k]:=by
    rw[List.getElem?_eq_getElem (by rw[hl];exact hlt)];rfl
   have HG:=zh hget
   clear hget
   have h256:(s[k].toNat:Int)<256:=by have:=s[k].toNat_lt;omega
   cases hdig:Num.isDigit s[k] with
   | true=>
    have hb:=hdig
    simp only[Num.isDigit,Bool.and_eq_true,decide_eq_true_eq] at hb
    obtain ⟨hb1,hb2⟩:=hb
    have hb3:(48:Int)≤s[k].toNat:=by omega
    have hb4:(s[k].toNat:Int)≤57:=by omega
    have HD2:=zh (show ∀b∈s.data.toList.take (k+1),Num.isDigit b=true by
     rw[List.take_add_one,HG.out]
     intro b hb
     rcases List.mem_append.1 hb with hb | hb
     ·exact HD.out b hb
     ·simp at hb;subst hb;exact hdig)
    have hv:=Num.digitVal_some hdig
    clear hdig
    by_cases h10:k<10
    ·have HM2:=zh (show Lib.decFrom 0 (s.data.toList.take (min (k+1) 10))=some (m*10+(s[k].toNat-48)) by
      have e1:min (k+1) 10=k+1:=by omega
      have e2:min k 10=k:=by omega
      have:=HM.out
      rw[e2] at this
      rw[e1]
      exact Lib.decFrom_take _ k 0 m _ _ this HG.out hv)
     clear hv
     go_wp2
     go_round
     case rel=>exact ⟨k+1,m*10+(s[k].toNat-48),by go_num,by go_num,by omega,HD2.out,HM2.out⟩
     case measure=>simp[intOf];omega
    ·have HM2:=zh (show Lib.decFrom 0 (s.data.toList.take (min (k+1) 10))=some m by
      have e1:min (k+1) 10=min k 10:=by omega
      rw[e1];exact HM.out)
     clear hv
     go_wp2
     go_round
     case rel=>exact ⟨k+1,m,rfl,by go_num,by omega,HD2.out,HM2.out⟩
     case measure=>simp[intOf];omega
   | false=>
    have HT:=zh (show s.data.toList.takeWhile Num.isDigit=s.data.toList.take k from Num.takeWhile_at _ k (by rw[hl];omega) HD.out (fun b hb=>by rw[HG.out] at hb;cases hb;exact hdig))
    have hb:¬(48≤s[k].toNat∧s[k].toNat≤57):=by
     intro h;simp[Num.isDigit,h] at hdig
    clear hdig
    by_cases h48:(48:Int)≤s[k].toNat
    ·have h57:¬(s[k].toNat:Int)≤57:=by omega
     clear hb
     by_cases h10:k≤10
     ·go_wp2
      go_ret2
      exact ⟨zbD (zb8 HT.out hk h10 HM.out),rfl⟩
     ·go_wp2
      go_ret2
      exact ⟨zbD (zdL HT.out hk h10),rfl⟩
    ·clear hb
     by_cases h10:k≤10
     ·go_wp2
      go_ret2
      exact ⟨zbD (zb8 HT.out hk h10 HM.out),rfl⟩
     ·go_wp2
      go_ret2
      exact ⟨zbD (zdL HT.out hk h10),rfl⟩
  ·have HT:=zh (show s.data.toList.takeWhile Num.isDigit=s.data.toList.take k from Num.takeWhile_at _ k (by rw[hl];omega) HD.out (fun b hb=>by
    rw[List.getElem?_eq_none (by rw[hl];omega)] at hb;cases hb))
   by_cases h10:k≤10
   ·go_wp2
    go_ret2
    exact ⟨zbD (zb8 HT.out hk h10 HM.out),rfl⟩
   ·go_wp2
    go_ret2
    exact ⟨zbD (zdL HT.out hk h10),rfl⟩
end
section
open Go.RowKit
namespace Num
theorem zba (p:UInt8→Bool) (l:List UInt8):(∀b∈l.takeWhile p,p b=true)∧l=l.takeWhile p++l.dropWhile p∧(∀c t,l.dropWhile p=c::t→p c=false):=by
 induction l with
 | nil=>simp
 | cons c l ih=>
  simp only[List.takeWhile_cons,List.dropWhile_cons]
  split
  ·rename_i h
   refine ⟨by simpa[h] using ih.1,by rw[List.cons_append,←ih.2.1],ih.2.2⟩
  ·rename_i h
   refine ⟨by simp,by simp,?_⟩
   intro d t hd
   simp only[List.cons.injEq] at hd
   rw[←hd.1];simpa using h
theorem zd5 (l:List UInt8):((part l).2≠0∧(part l).2=l.length→∃m:Nat,nat? l=some m∧(part l).1=m)∧(¬((part l).2≠0∧(part l).2=l.length)→nat? l=none):=by
 obtain ⟨hd,hs,hc⟩:=zba isDigit l
 obtain ⟨m,hm⟩:=za1 (l.takeWhile isDigit) 0 hd
 generalize hA:l.takeWhile isDigit=A at *
 generalize hB:l.dropWhile isDigit=B at *
 unfold part
 rw[hA]
 have none_of:(B≠[]∨10<A.length∨A=[])→nat? l=none:=by
  intro h
  unfold nat?
  split
  ·rename_i hl
   rcases h with h | h | h
   ·unfold Lib.decNat
    split
    ·rfl
    ·refine zbh l 0 ?_
     cases B with
     | nil=>exact absurd rfl h
     | cons c t=>exact ⟨c,by rw[hs];simp,hc c t rfl⟩
   ·have:=congrArg List.length hs
    rw[List.length_append] at this;omega
   ·cases B with
    | nil=>rw[hs,h];rfl
    | cons c t=>
     unfold Lib.decNat
     split
     ·rfl
     ·exact zbh l 0 ⟨c,by rw[hs];simp,hc c t rfl⟩
  ·rfl
 have hlen:=congrArg List.length hs
 rw[List.length_append] at hlen
 constructor
 ·split
  ·intro h;simp at h
  ·rename_i h10
   intro ⟨h1,h2⟩
   have hB0:B=[]:=by
    apply List.length_eq_zero_iff.1
    simp only at h2;omega
   subst hB0
   rw[List.append_nil] at hs
   subst hs
   refine ⟨m,?_,by rw[hm];rfl⟩
   unfold nat? Lib.decNat
   rw[if_pos (by omega),if_neg (by simp only[List.isEmpty_iff];rintro rfl;simp at h1),hm]
 ·split
  ·rename_i h10
   intro _;exact none_of (.inr (.inl h10))
  ·rename_i h10
   intro h
   by_cases hA0:A=[]
   ·exact none_of (.inr (.inr hA0))
   ·refine none_of (.inl ?_)
    rintro rfl
    apply h
    have:A.length≠0:=fun e=>hA0 (List.length_eq_zero_iff.1 e)
    simp only[List.length_nil] at hlen
    constructor
    ·simp only[];omega
    ·simp only[];omega
theorem tw_tw (r:List UInt8):(r.takeWhile noSlash).takeWhile isDigit=r.takeWhile isDigit:=by
 induction r with
 | nil=>rfl
 | cons a r ih=>
  cases h:isDigit a with
  | true=>simp[zct h,h,ih]
  | false=>
   cases h2:noSlash a<;>simp[h,h2]
def fin (neg:Bool) (n d:Int):Int × Int × Bool:=
 ((mk (if neg then -n else n) d).1,(mk (if neg then -n else n) d).2.1,decide ((mk (if neg then -n else n) d).2.2=0))
theorem part_bd (l:List UInt8):0≤(part l).1∧(part l).1<10000000000∧0≤(part l).2∧(part l).2≤10∧(part l).2≤l.length:=by
 obtain ⟨hd,hs,hc⟩:=zba isDigit l
 obtain ⟨m,hm⟩:=za1 (l.takeWhile isDigit) 0 hd
 have hlen:=congrArg List.length hs
 rw[List.length_append] at hlen
 unfold part
 split
 ·simp
 ·rename_i h10
  have h1:=Lib.decFrom_lt _ 0 m hm
  have hp:10 ^ (l.takeWhile isDigit).length≤10 ^ 10:=Nat.pow_le_pow_right (by omega) (by omega)
  rw[hm]
  simp only[Option.getD_some]
  omega
theorem parseU_ref (neg:Bool) (r:List UInt8) (n k:Int) (hp:part r=(n,k)) :
  (k=0→parseU neg r=(0,0,false))∧(k≠0→k=r.length→parseU neg r=fin neg n 1) ∧
  (k≠0→k<r.length→∀b,r[k.toNat]?=some b→b≠47→parseU neg r=(0,0,false)) ∧
  (k≠0→k<r.length→r[k.toNat]?=some 47→∀d j,part (r.drop (k.toNat+1))=(d,j) →
   (j=0∨k+1+j≠r.length→parseU neg r=(0,0,false))∧(j≠0→k+1+j=r.length→parseU neg r=fin neg n d)):=by
 have hA:part (r.takeWhile noSlash)=(n,k):=by
  rw[←hp]
  unfold part
  have:(r.takeWhile noSlash).takeWhile isDigit=r.takeWhile isDigit:=by
   exact tw_tw r
  rw[this]
 obtain ⟨h1,h2⟩:=zd5 (r.takeWhile noSlash)
 have bd:=part_bd (r.takeWhile noSlash)
 have hkA:=bd.2.2.2.2
 have hk0:=bd.2.2.1
 rw[hA] at h1 h2 hkA hk0
 simp only at h1 h2 hkA hk0
 obtain ⟨sd,ss,sc⟩:=zba noSlash r
 have hlen:=congrArg List.length ss
 rw[List.length_append] at hlen
 have none_of:nat? (r.takeWhile noSlash)=none→parseU neg r=(0,0,false):=by
  intro h;unfold parseU;rw[h]
 have get:k=(r.takeWhile noSlash).length→r[k.toNat]?=(r.dropWhile noSlash)[0]?:=by
  intro h
  have e:r[k.toNat]?=(r.takeWhile noSlash++r.dropWhile noSlash)[k.toNat]?:=by rw[←ss]
  rw[e,List.getElem?_append_right (by omega)]
  congr 1;omega
 refine ⟨?_,?_,?_,?_⟩
 ·intro h0
  exact none_of (h2 (fun h=>h.1 h0))
 ·intro h0 hk
  obtain ⟨m,hm,he⟩:=h1 ⟨h0,by omega⟩
  have hD:r.dropWhile noSlash=[]:=List.length_eq_zero_iff.1 (by omega)
  unfold parseU lower
  rw[hm,hD]
  simp only[]
  rw[show nat? [49]=some 1 from rfl]
  unfold fin
  rw[he];rfl
 ·intro h0 hk b hb hne
  refine none_of (h2 ?_)
  intro h
  rw[get h.2] at hb
  cases hD:r.dropWhile noSlash with
  | nil=>rw[hD] at hb;cases hb
  | cons c t=>
   rw[hD] at hb
   have:=sc c t hD
   simp only[List.getElem?_cons_zero,Option.some.injEq] at hb
   subst hb
   simp only[noSlash,bne_eq_false_iff_eq] at this
   exact hne this
 ·intro h0 hk hb d j hq
  have hkk:k=(r.takeWhile noSlash).length:=by
   apply Decidable.byContradiction
   intro hne
   have hlt:k.toNat<(r.takeWhile noSlash).length:=by omega
   have e:r[k.toNat]?=(r.takeWhile noSlash++r.dropWhile noSlash)[k.toNat]?:=by rw[←ss]
   rw[e,List.getElem?_append_left hlt] at hb
   have:=sd 47 (List.mem_of_getElem? hb)
   exact absurd this (by decide)
  obtain ⟨m,hm,he⟩:=h1 ⟨h0,hkk⟩
  have hg:=get hkk
  rw[hb] at hg
  cases hD:r.dropWhile noSlash with
  | nil=>rw[hD] at hg;cases hg
  | cons c t=>
   rw[hD] at hg ss hlen
   simp only[List.getElem?_cons_zero,Option.some.injEq] at hg
   subst hg
   have ht:r.drop (k.toNat+1)=t:=by
    have e:k.toNat+1=(r.takeWhile noSlash++[47]).length:=by rw[List.length_append];simp;omega
    have e2:r=(r.takeWhile noSlash++[47])++t:=by rw[List.append_assoc];exact ss
    rw[e]
    conv=>lhs;rw[e2]
    have:(r.takeWhile noSlash++[47]++t).drop (r.takeWhile noSlash++[47]).length=t:=List.drop_left
    rw[←e2] at this
    rw[←e2];exact this
   rw[ht] at hq
   obtain ⟨g1,g2⟩:=zd5 t
   rw[hq] at g1 g2
   simp only at g1 g2
   simp only[List.length_cons] at hlen
   constructor
   ·intro h
    have:=g2 (by intro hc;omega)
    unfold parseU lower
    rw[hm,hD]
    simp only[this]
   ·intro hj hl
    obtain ⟨m',hm',he'⟩:=g1 ⟨hj,by omega⟩
    unfold parseU lower
    rw[hm,hD]
    simp only[hm']
    unfold fin
    rw[he,he']
end Num
end
section
open Go.RowKit
theorem zaZ {a b:Int} {p q:Bool} {P:Int × Int × Bool} (h:P=(a,b,q)) (h':p=q):Ending.returned (.tuple #[.int .i64 a,.int .i64 b,.bool p])=.returned (.tuple #[.int .i64 P.1,.int .i64 P.2.1,.bool P.2.2]):=by
 rw[h,h']
theorem zaL (s:ByteArray) (n:Int) (K:Nat) (h:Num.part s.data.toList=(n,(K:Int))) (hs:s.size≤140737488355328) (w:World) :
  Calls prog 120 #[.string s] w fun e w'=>e=.returned (.tuple #[.int .i64 n,.int .i64 K])∧w=w':=by
 have:=zho s hs w
 simp only[h] at this
 exact this
theorem zb5 (l:List UInt8):∃(n:Int) (K:Nat),Num.part l=(n,(K:Int))∧0≤n∧n<10000000000∧K≤10∧K≤l.length:=by
 have h:=Num.part_bd l
 refine ⟨(Num.part l).1,(Num.part l).2.toNat,?_,h.1,h.2.1,by omega,by omega⟩
 rw[Int.toNat_of_nonneg h.2.2.1]
theorem zfW (s R:ByteArray) (res:Int × Int × Bool) (hs:s.size≤140737488355328) (h0:0<s.size) (h45:((s[0].toNat:Int)==45)=true) (hR:s.extract 1 s.size=R) (hRl:R.size≤140737488355328) (hF:res=Num.parseU true R.data.toList) (w:World) :
  Calls prog 107 #[.string s] w fun e w'=>e=.returned (.tuple #[.int .i64 res.1,.int .i64 res.2.1,.bool res.2.2])∧Below w.heap.size w w':=by
 have hl:R.data.toList.length=R.size:=rfl
 obtain ⟨n,K,hp,n0,n1,k0,k1⟩:=zb5 R.data.toList
 obtain ⟨c1,c2,c3,c4⟩:=Num.parseU_ref true R.data.toList n K hp
 rw[hl] at k1 c2 c3 c4
 have e0:(K:Int).toNat=K:=rfl
 rw[e0] at c3 c4
 have HP:=zh hp
 by_cases a0:K=0
 ·have hf:=zh (hF.trans (c1 (by omega)))
  clear c1 c2 c3 c4 hF hp e0
  subst a0
  go_enter func107,ntmps107
  go_wp2_with (first | (go_at_call 120;((with_reducible refine (zaL R n 0 HP.out hRl _).mono ?_);rintro e' w1 ⟨rfl,rfl⟩)))
  go_ret3
  exact ⟨zaZ hf.out rfl,by first | exact Below.self _ | exact Below.selfN _ _⟩
 have a1:((K:Int)==0)=false:=by simpa using a0
 by_cases a2:K=R.size
 ·have c2':=c2 (by omega) (by omega)
  have HC:=zh c2'
  have a3:¬K<R.size:=by omega
  have A2:=zh a2
  clear c1 c2 c3 c4 c2' e0 a2
  obtain ⟨x,y,z,hm⟩:∃x y z,Num.mk (-n) 1=(x,y,z):=⟨_,_,_,rfl⟩
  have HM:=zh hm
  have HF:=zh (hF.trans ((HC.out).trans (show Num.fin true n 1=(x,y,decide (z=0)) by unfold Num.fin;simp[hm])))
  clear hm hp hF
  go_enter func107,ntmps107
  go_wp2_with (first | (go_at_call 120;((with_reducible refine (zaL R n K HP.out hRl _).mono ?_);rintro e' w1 ⟨rfl,rfl⟩)) | (go_at_call 121;refine (zcy (-n) 1 x y z HM.out (by omega) (by omega) (by omega) (by omega) _).mono ?_;rintro e' w1 ⟨rfl,nk,rfl⟩))
  go_ret3
  exact ⟨zaZ HF.out (by first | rfl | simp),by first | exact Below.self _ | exact Below.selfN _ _⟩
 have a4:K<R.size:=by omega
 have hg:R.data.toList[K]?=some R[K]:=by rw[List.getElem?_eq_getElem (by rw[hl];exact a4)];rfl
 cases b:((R[K].toNat:Int)==47) with
 | false=>
  have hne:R[K]≠47:=by rintro h;rw[h] at b;exact absurd b (by decide)
  have hf:=zh (hF.trans (c3 (by omega) (by omega) _ hg hne))
  have A2:=zh a2
  clear c1 c2 c3 c4 hF hp e0 hg hne a2
  go_enter func107,ntmps107
  go_wp2_with (first | (go_at_call 120;((with_reducible refine (zaL R n K HP.out hRl _).mono ?_);rintro e' w1 ⟨rfl,rfl⟩)))
  go_ret3
  exact ⟨zaZ hf.out rfl,by first | exact Below.self _ | exact Below.selfN _ _⟩
 | true=>
  have heq:R[K]=47:=by
   have:(R[K].toNat:Int)=47:=by simpa using b
   apply UInt8.toNat_inj.1
   show R[K].toNat=47
   omega
  rw[heq] at hg
  obtain ⟨T,hT⟩:∃T,R.extract (K+1) R.size=T:=⟨_,rfl⟩
  have hTd:T.data.toList=R.data.toList.drop (K+1):=by
   rw[←hT,za4,←hl,List.take_length]
  have hTs:T.size=R.size-(K+1):=by rw[←hT];simp
  have hTl:T.size≤140737488355328:=by omega
  obtain ⟨d,J,hq,d0,d1,j0,j1⟩:=zb5 T.data.toList
  have HQ:=zh hq
  rw[hTd] at hq
  obtain ⟨g1,g2⟩:=c4 (by omega) (by omega) hg d J hq
  have A2:=zh a2
  clear c1 c2 c3 c4 e0 hg heq hq hTd j1 a2
  by_cases b0:J=0
  ·have hf:=zh (hF.trans (g1 (.inl (by omega))))
   clear g1 g2 hF hp
   subst b0
   go_enter func107,ntmps107
   go_wp2_with (first | (go_at_call 120;((with_reducible refine (zaL R n K HP.out hRl _).mono ?_);rintro e' w1 ⟨rfl,rfl⟩)) | (go_at_call 120;((with_reducible refine (zaL T d 0 HQ.out hTl _).mono ?_);rintro e' w1 ⟨rfl,rfl⟩)))
   go_ret3
   exact ⟨zaZ hf.out rfl,by first | exact Below.self _ | exact Below.selfN _ _⟩
  have b1:((J:Int)==0)=false:=by simpa using b0
  by_cases b2:K+1+J=R.size
  ·have g2':=g2 (by omega) (by omega)
   have HC:=zh g2'
   have b3:((K:Int)+1+J != R.size)=false:=by simp;omega
   have B2:=zh b2
   clear g1 g2 g2' b2
   obtain ⟨x,y,z,hm⟩:∃x y z,Num.mk (-n) d=(x,y,z):=⟨_,_,_,rfl⟩
   have HM:=zh hm
   have HF:=zh (hF.trans ((HC.out).trans (show Num.fin true n d=(x,y,decide (z=0)) by unfold Num.fin;simp[hm])))
   clear hm hp hF
   go_enter func107,ntmps107
   go_wp2_with (first | (go_at_call 120;((with_reducible refine (zaL R n K HP.out hRl _).mono ?_);rintro e' w1 ⟨rfl,rfl⟩)) | (go_at_call 120;((with_reducible refine (zaL T d J HQ.out hTl _).mono ?_);rintro e' w1 ⟨rfl,rfl⟩)) | (go_at_call 121;refine (zcy (-n) d x y z HM.out (by omega) (by omega) (by omega) (by omega) _).mono ?_;rintro e' w1 ⟨rfl,nk,rfl⟩))
   go_ret3
   exact ⟨zaZ HF.out (by first | rfl | simp),by first | exact Below.self _ | exact Below.selfN _ _⟩
  ·have hf:=zh (hF.trans (g1 (.inr (by omega))))
   have b3:((K:Int)+1+J != R.size)=true:=by simp;omega
   have B2:=zh b2
   clear g1 g2 hF hp b2
   go_enter func107,ntmps107
   go_wp2_with (first | (go_at_call 120;((with_reducible refine (zaL R n K HP.out hRl _).mono ?_);rintro e' w1 ⟨rfl,rfl⟩)) | (go_at_call 120;((with_reducible refine (zaL T d J HQ.out hTl _).mono ?_);rintro e' w1 ⟨rfl,rfl⟩)))
   go_ret3
   exact ⟨zaZ hf.out rfl,by first | exact Below.self _ | exact Below.selfN _ _⟩
theorem zfK (s R:ByteArray) (res:Int × Int × Bool) (hs:s.size≤140737488355328) (h0:0<s.size) (h45:((s[0].toNat:Int)==45)=false) (hR:s=R) (hRl:R.size≤140737488355328) (hF:res=Num.parseU false R.data.toList) (w:World) :
  Calls prog 107 #[.string s] w fun e w'=>e=.returned (.tuple #[.int .i64 res.1,.int .i64 res.2.1,.bool res.2.2])∧Below w.heap.size w w':=by
 subst hR
 have hl:s.data.toList.length=s.size:=rfl
 obtain ⟨n,K,hp,n0,n1,k0,k1⟩:=zb5 s.data.toList
 obtain ⟨c1,c2,c3,c4⟩:=Num.parseU_ref false s.data.toList n K hp
 rw[hl] at k1 c2 c3 c4
 have e0:(K:Int).toNat=K:=rfl
 rw[e0] at c3 c4
 have HP:=zh hp
 by_cases a0:K=0
 ·have hf:=zh (hF.trans (c1 (by omega)))
  clear c1 c2 c3 c4 hF hp e0
  subst a0
  go_enter func107,ntmps107
  go_wp2_with (first | (go_at_call 120;((with_reducible refine (zaL s n 0 HP.out hRl _).mono ?_);rintro e' w1 ⟨rfl,rfl⟩)))
  go_ret3
  exact ⟨zaZ hf.out rfl,by first | exact Below.self _ | exact Below.selfN _ _⟩
 have a1:((K:Int)==0)=false:=by simpa using a0
 by_cases a2:K=s.size
 ·have c2':=c2 (by omega) (by omega)
  have HC:=zh c2'
  have a3:¬K<s.size:=by omega
  have A2:=zh a2
  clear c1 c2 c3 c4 c2' e0 a2
  obtain ⟨x,y,z,hm⟩:∃x y z,Num.mk n 1=(x,y,z):=⟨_,_,_,rfl⟩
  have HM:=zh hm
  have HF:=zh (hF.trans ((HC.out).trans (show Num.fin false n 1=(x,y,decide (z=0)) by unfold Num.fin;simp[hm])))
  clear hm hp hF
  go_enter func107,ntmps107
  go_wp2_with (first | (go_at_call 120;((with_reducible refine (zaL s n K HP.out hRl _).mono ?_);rintro e' w1 ⟨rfl,rfl⟩)) | (go_at_call 121;refine (zcy n 1 x y z HM.out (by omega) (by omega) (by omega) (by omega) _).mono ?_;rintro e' w1 ⟨rfl,nk,rfl⟩))
  go_ret3
  exact ⟨zaZ HF.out (by first | rfl | simp),by first | exact Below.self _ | exact Below.selfN _ _⟩
 have a4:K<s.size:=by omega
 have hg:s.data.toList[K]?=some s[K]:=by rw[List.getElem?_eq_getElem (by rw[hl];exact a4)];rfl
 cases b:((s[K].toNat:Int)==47) with
 | false=>
  have hne:s[K]≠47:=by rintro h;rw[h] at b;exact absurd b (by decide)
  have hf:=zh (hF.trans (c3 (by omega) (by omega) _ hg hne))
  have A2:=zh a2
  clear c1 c2 c3 c4 hF hp e0 hg hne a2
  go_enter func107,ntmps107
  go_wp2_with (first | (go_at_call 120;((with_reducible refine (zaL s n K HP.out hRl _).mono ?_);rintro e' w1 ⟨rfl,rfl⟩)))
  go_ret3
  exact ⟨zaZ hf.out rfl,by first | exact Below.self _ | exact Below.selfN _ _⟩
 | true=>
  have heq:s[K]=47:=by
   have:(s[K].toNat:Int)=47:=by simpa using b
   apply UInt8.toNat_inj.1
   show s[K].toNat=47
   omega
  rw[heq] at hg
  obtain ⟨T,hT⟩:∃T,s.extract (K+1) s.size=T:=⟨_,rfl⟩
  have hTd:T.data.toList=s.data.toList.drop (K+1):=by
   rw[←hT,za4,←hl,List.take_length]
  have hTs:T.size=s.size-(K+1):=by rw[←hT];simp
  have hTl:T.size≤140737488355328:=by omega
  obtain ⟨d,J,hq,d0,d1,j0,j1⟩:=zb5 T.data.toList
  have HQ:=zh hq
  rw[hTd] at hq
  obtain ⟨g1,g2⟩:=c4 (by omega) (by omega) hg d J hq
  have A2:=zh a2
  clear c1 c2 c3 c4 e0 hg heq hq hTd j1 a2
  by_cases b0:J=0
  ·have hf:=zh (hF.trans (g1 (.inl (by omega))))
   clear g1 g2 hF hp
   subst b0
   go_enter func107,ntmps107
   go_wp2_with (first | (go_at_call 120;((with_reducible refine (zaL s n K HP.out hRl _).mono ?_);rintro e' w1 ⟨rfl,rfl⟩)) | (go_at_call 120;((with_reducible refine (zaL T d 0 HQ.out hTl _).mono ?_);rintro e' w1 ⟨rfl,rfl⟩)))
   go_ret3
   exact ⟨zaZ hf.out rfl,by first | exact Below.self _ | exact Below.selfN _ _⟩
  have b1:((J:Int)==0)=false:=by simpa using b0
  by_cases b2:K+1+J=s.size
  ·have g2':=g2 (by omega) (by omega)
   have HC:=zh g2'
   have b3:((K:Int)+1+J != s.size)=false:=by simp;omega
   have B2:=zh b2
   clear g1 g2 g2' b2
   obtain ⟨x,y,z,hm⟩:∃x y z,Num.mk n d=(x,y,z):=⟨_,_,_,rfl⟩
   have HM:=zh hm
   have HF:=zh (hF.trans ((HC.out).trans (show Num.fin false n d=(x,y,decide (z=0)) by unfold Num.fin;simp[hm])))
   clear hm hp hF
   go_enter func107,ntmps107
   go_wp2_with (first | (go_at_call 120;((with_reducible refine (zaL s n K HP.out hRl _).mono ?_);rintro e' w1 ⟨rfl,rfl⟩)) | (go_at_call 120;((with_reducible refine (zaL T d J HQ.out hTl _).mono ?_);rintro e' w1 ⟨rfl,rfl⟩)) | (go_at_call 121;refine (zcy n d x y z HM.out (by omega) (by omega) (by omega) (by omega) _).mono ?_;rintro e' w1 ⟨rfl,nk,rfl⟩))
   go_ret3
   exact ⟨zaZ HF.out (by first | rfl | simp),by first | exact Below.self _ | exact Below.selfN _ _⟩
  ·have hf:=zh (hF.trans (g1 (.inr (by omega))))
   have b3:((K:Int)+1+J != s.size)=true:=by simp;omega
   have B2:=zh b2
   clear g1 g2 hF hp b2
   go_enter func107,ntmps107
   go_wp2_with (first | (go_at_call 120;((with_reducible refine (zaL s n K HP.out hRl _).mono ?_);rintro e' w1 ⟨rfl,rfl⟩)) | (go_at_call 120;((with_reducible refine (zaL T d J HQ.out hTl _).mono ?_);rintro e' w1 ⟨rfl,rfl⟩)))
   go_ret3
   exact ⟨zaZ hf.out rfl,by first | exact Below.self _ | exact Below.selfN _ _⟩
theorem zen (s R:ByteArray) (res:Int × Int × Bool) (_hs:s.size≤140737488355328) (h0:s.size=0) (hR:s=R) (hRl:R.size≤140737488355328) (hF:res=Num.parseU false R.data.toList) (w:World) :
  Calls prog 107 #[.string s] w fun e w'=>e=.returned (.tuple #[.int .i64 res.1,.int .i64 res.2.1,.bool res.2.2])∧Below w.heap.size w w':=by
 subst hR
 have hl:s.data.toList.length=s.size:=rfl
 obtain ⟨n,K,hp,n0,n1,k0,k1⟩:=zb5 s.data.toList
 obtain ⟨c1,c2,c3,c4⟩:=Num.parseU_ref false s.data.toList n K hp
 rw[hl] at k1 c2 c3 c4
 have e0:(K:Int).toNat=K:=rfl
 rw[e0] at c3 c4
 have HP:=zh hp
 by_cases a0:K=0
 ·have hf:=zh (hF.trans (c1 (by omega)))
  clear c1 c2 c3 c4 hF hp e0
  subst a0
  go_enter func107,ntmps107
  go_wp2_with (first | (go_at_call 120;((with_reducible refine (zaL s n 0 HP.out hRl _).mono ?_);rintro e' w1 ⟨rfl,rfl⟩)))
  go_ret3
  exact ⟨zaZ hf.out rfl,by first | exact Below.self _ | exact Below.selfN _ _⟩
 ·exfalso;omega
theorem zgt (s:ByteArray) (hs:s.size≤140737488355328) (w:World) :
  Calls prog 107 #[.string s] w fun e w'=>e=.returned (.tuple #[.int .i64 (Num.parse s.data.toList).1,.int .i64 (Num.parse s.data.toList).2.1,.bool (Num.parse s.data.toList).2.2])∧Below w.heap.size w w':=by
 have hl:s.data.toList.length=s.size:=rfl
 by_cases h0:0<s.size
 ·have hg:s.data.toList[0]?=some s[0]:=by rw[List.getElem?_eq_getElem (by rw[hl];exact h0)];rfl
  cases hc:s.data.toList with
  | nil=>rw[hc] at hg;cases hg
  | cons b r=>
   rw[hc] at hg
   simp only[List.getElem?_cons_zero,Option.some.injEq] at hg
   by_cases hb:b=45
   ·have h45:((s[0].toNat:Int)==45)=true:=by rw[←hg,hb];decide
    have hx:(s.extract 1 s.size).data.toList=r:=by
     rw[za4,←hl,List.take_length,hc];rfl
    refine zfW s _ _ hs h0 h45 rfl (by simp;omega) ?_ w
    rw[hx,hb];rfl
   ·have h45:((s[0].toNat:Int)==45)=false:=by
     rw[←hg]
     simp only[beq_eq_false_iff_ne,ne_eq]
     intro h
     apply hb
     apply UInt8.toNat_inj.1
     show b.toNat=45
     omega
    refine zfK s _ _ hs h0 h45 rfl hs ?_ w
    rw[hc]
    unfold Num.parse
    split
    ·rename_i h;simp only[List.cons.injEq] at h;exact absurd h.1 hb
    ·rfl
 ·refine zen s _ _ hs (by omega) rfl hs ?_ w
  have:s.data.toList=[]:=List.length_eq_zero_iff.1 (by rw[hl];omega)
  rw[this];rfl
end
section
open Go.ChangeShapes Go.WideShapes Go.ChangeAt Go.RowKit
theorem own:ownKnob prog.godebug=none:=by kernel_rfl
theorem laid:laidOutB prog=true:=by kernel_rfl
section
variable {H : Type} {enc : TypeId × Value → H} {P : Program}
theorem zbV (hl:laidOutB P=true) {W W':World} (hb:Below W.heap.size W W') :
  ∀(ts:List TypeId) (vs:List Value) (ds:List (DataW H)) (ps:List MemPlace),(∀t∈ts,P.readableRec t=true∧t<P.types.size) →
   DataW.TrodAll enc P W 0 (fun _=>true) true ts vs ds ps→(∀x∈ps,x.block<W.heap.size) →
   DataW.TrodAll enc P W' 0 (fun b=>decide (b<W.heap.size)) true ts vs ds ps
 | [],[],[],_,_,h,_=>h
 | t::ts,v::vs,d::ds,ps,hts,h,hlt=>by
  obtain ⟨p,q,h1,h2,rfl⟩:=h
  refine ⟨p,q,Below.trod hl (hts t (by simp)).1 (hts t (by simp)).2 h1 hb (fun x hx=>hlt x (by simp[hx])),?_,rfl⟩
  exact zbV hl hb ts vs ds q (fun t ht=>hts t (by simp[ht])) h2 (fun x hx=>hlt x (by simp[hx]))
 | [],[],_::_,_,_,h,_=>h.elim
 | [],_::_,_,_,_,h,_=>h.elim
 | _::_,[],_,_,_,h,_=>h.elim
 | _::_,_::_,[],_,_,h,_=>h.elim
theorem zje {f:Func} {s:ChangeSpec} {W W':World} {args:Array Value} {ds gs:List (DataW H)} {before:List MemPlace} {tb:TypeId}
  (hW:DataW.Whole enc P f.params.toList s.vars false W args.toList ds gs before) (hv:s.vars=[]) (hb:Below W.heap.size W W') (hl:laidOutB P=true)
  (hts0:(f.params.toList.all fun t=>P.readableRec t&&decide (t<P.types.size))=true) (hres:f.resultTypes=#[tb]) (htb:P.underlying tb=some .bool)
  (hfn:s.fn H (ds++gs) = { results:=[.lit (.bool true)],args:=ds }):s.post enc P f false true false false W args (.bool true) W':=by
 have hts:∀t∈f.params.toList,P.readableRec t=true∧t<P.types.size:=fun t ht=>by
  have:=List.all_eq_true.1 hts0 t ht
  simpa using this
 have hW':=hW
 obtain ⟨p,q,hA,hV,rfl,hfz,hnd⟩:=hW
 rw[hv] at hV
 have hq:gs=[]∧q=[]:=by
  cases gs with
  | nil=>exact ⟨rfl,hV⟩
  | cons g gs=>exact hV.elim
 obtain ⟨rfl,rfl⟩:=hq
 refine ⟨ds,[],p++[],[],p,[],hW',?_,?_,?_,hb.frame _,fun h=>by cases h⟩
 ·rw[hfn,hres]
  exact ⟨[],[],⟨1,by simp[Value.cells,DataW.trod,htb]⟩,rfl,rfl⟩
 ·rw[hfn]
  exact zbV hl hb _ _ _ _ hts hA (fun x hx=>hW'.lt x (by simp[hx]))
 ·rw[hfn,hv]
  exact rfl
theorem zio {n:Int} (h:(Lit.int .i64 n).wf=true):-9223372036854775808≤n∧n≤9223372036854775807:=bounds_i64 h
end
end
section
open Go.ChangeShapes Go.WideShapes Go.ChangeAt Go.RowKit
noncomputable def zb0 (os:Os):World:=
 { World.doorLaid prog 400 os with heap:=(World.doorLaid prog 400 os).heap.modify 0 fun
   | .cells _ t frozen=>.cells (Go.Pinned.utf8FirstZ.map fun z:Nat=>Value.int .u8 (z:Int)).toArray t frozen
   | o=>o }
theorem zbd {W : World} {rest : List (String × DataW Unit)} (h : laidMet prog (("internal/strconv.uint64pow10", Rows.laid_internal_strconv_uint64pow10) :: rest) W) : Env W := by
 have e:(Rows.laid_internal_strconv_uint64pow10:DataW Unit)=Lib.tabData .u64 Lib.pow10Tab:=by kernel_rfl
 rw[e] at h
 exact Lib.tabIs_of_head (g:=5) (t:=204) (e:=133) (n:=20) (by kernel_rfl) (by kernel_rfl) underlying204 underlying133 (by kernel_rfl) (by kernel_rfl) h
end
section
open Go.RowKit Go.Deep
section
variable {H : Type} {enc : TypeId × Value → H}
theorem zbM:prog.cellsOf 41=5:=by kernel_rfl
theorem zeA:prog.cellsOf 3=1:=by kernel_rfl
theorem zd4:prog.cellsOf 9=1:=by kernel_rfl
theorem zdl:prog.cellsOf 22=1:=by kernel_rfl
theorem zcz:prog.bytesOf 41=64:=by kernel_rfl
theorem zaR {P:Program} {e:TypeId}:∀{l:List (DataW H)} {d:DataW H},d∈l→∀n∈d.weights P e,n∈DataW.weightsAll P e l
 | d'::r,d,hd,n,hn=>by
  simp only[DataW.weightsAll,List.mem_append]
  rcases List.mem_cons.1 hd with rfl | h
  ·exact Or.inl hn
  ·exact Or.inr (zaR h n hn)
theorem zaG {P:Program}:∀{ts:List TypeId} {l:List (DataW H)} (i:Nat) {t:TypeId} {d:DataW H},ts[i]?=some t→l[i]?=some d→∀n∈d.weights P t,n∈DataW.weightsEach P ts l
 | t'::ts,d'::r,0,t,d,ht,hd,n,hn=>by
  simp only[List.getElem?_cons_zero,Option.some.injEq] at ht hd
  subst ht;subst hd
  simp only[DataW.weightsEach,List.mem_append];exact Or.inl hn
 | t'::ts,d'::r,i+1,t,d,ht,hd,n,hn=>by
  simp only[DataW.weightsEach,List.mem_append]
  exact Or.inr (zaG i (by simpa using ht) (by simpa using hd) n hn)
 | [],_,i,t,d,ht,_,_,_=>by simp at ht
 | _::_,[],i,t,d,_,hd,_,_=>by simp at hd
theorem zca {w:World} {B b:Nat}:∀(len off:Nat),(∀i,i<len→∃x c0 c1 c2 c3 c4,w.cell? ⟨b,off+i*5,none⟩=some c0∧w.cell? ⟨b,off+i*5+1,none⟩=some c1∧w.cell? ⟨b,off+i*5+2,none⟩=some c2∧w.cell? ⟨b,off+i*5+3,none⟩=some c3∧w.cell? ⟨b,off+i*5+4,none⟩=some c4∧RepD w B x (.agg #[c0,c1,c2,c3,c4])) →
  ∃l:List Dat,l.length=len∧RepC w B l b off
 | 0,off,_=>⟨[],rfl,by rw[RepC];trivial⟩
 | len+1,off,h=>by
  obtain ⟨x,c0,c1,c2,c3,c4,h0,h1,h2,h3,h4,h5⟩:=h 0 (by omega)
  obtain ⟨l,hl,hr⟩:=zca len (off+5) (fun i hi=>by
   have:=h (i+1) (by omega)
   have e:off+(i+1)*5=off+5+i*5:=by omega
   rw[e] at this;exact this)
  refine ⟨x::l,by simp[hl],?_⟩
  rw[RepC]
  simp only[Nat.zero_mul,Nat.add_zero] at h0 h1 h2 h3 h4
  exact ⟨⟨c0,c1,c2,c3,c4,h0,h1,h2,h3,h4,h5⟩,hr⟩
theorem zaP {a:Addr} (h:a.spot=none) (n:Nat):a.add n=⟨a.block,a.off+n,none⟩:=by
 obtain ⟨b,o,sp⟩:=a
 simp only at h
 subst h
 unfold Addr.add
 split
 ·rename_i h0;subst h0;rfl
 ·rfl
theorem zbr {w:World} {a:Addr} {v:Value} (h:w.cell? a=some v):a.spot=none∧a.block<w.heap.size:=by
 unfold World.cell? at h
 split at h
 ·rename_i he
  split at h
  ·cases h
  ·rename_i hs
   refine ⟨by simpa using hs,?_⟩
   exact (Array.getElem?_eq_some_iff.1 he).1
 ·cases h
theorem zeQ {w:World}:∀(fuel:Nat) (cs:List Value) (y:DataW H × List MemPlace),DataW.trod enc prog w 0 (fun _=>true) true fuel 41 cs=some y →
  (∀n∈y.1.weights prog 41,n≤reachBytes)→∃x,RepD w w.heap.size x (.agg cs.toArray):=by
 intro fuel
 induction fuel using Nat.strongRecOn with
 | ind fuel ih=>
  intro cs y h hw
  obtain ⟨xs,n,rfl,rfl,hlen,hxs,hget⟩:=DataW.trod_struct underlying41 h
  rw[zbM] at hlen
  match cs,hlen with
  | [c0,c1,c2,c3,c4],_=>
   have g0:DataW.trod enc prog w 0 (fun _=>true) true n 3 (([c0,c1,c2,c3,c4].drop 0).take (prog.cellsOf 3))=xs[0]?:=hget 0 _ rfl
   have g1:DataW.trod enc prog w 0 (fun _=>true) true n 3 (([c0,c1,c2,c3,c4].drop 1).take (prog.cellsOf 3))=xs[1]?:=hget 1 _ rfl
   have g2:DataW.trod enc prog w 0 (fun _=>true) true n 3 (([c0,c1,c2,c3,c4].drop 2).take (prog.cellsOf 3))=xs[2]?:=hget 2 _ rfl
   have g3:DataW.trod enc prog w 0 (fun _=>true) true n 9 (([c0,c1,c2,c3,c4].drop 3).take (prog.cellsOf 9))=xs[3]?:=hget 3 _ rfl
   have g4:DataW.trod enc prog w 0 (fun _=>true) true n 22 (([c0,c1,c2,c3,c4].drop 4).take (prog.cellsOf 22))=xs[4]?:=hget 4 _ rfl
   rw[zeA] at g0 g1 g2
   rw[zd4] at g3
   rw[zdl] at g4
   have hx5:xs.length=5:=hxs
   match xs,hx5 with
   | [x0,x1,x2,x3,x4],_=>
    obtain ⟨k,e0,_,w0⟩:=DataW.trod_int underlying3 (show _=some x0 from g0)
    obtain ⟨m,e1,_,w1⟩:=DataW.trod_int underlying3 (show _=some x1 from g1)
    obtain ⟨d,e2,_,w2⟩:=DataW.trod_int underlying3 (show _=some x2 from g2)
    obtain ⟨s,e3,hx3,_⟩:=DataW.trod_string underlying9 (show _=some x3 from g3)
    have f0:c0=.int .i64 k:=by simpa using e0
    have f1:c1=.int .i64 m:=by simpa using e1
    have f2:c2=.int .i64 d:=by simpa using e2
    have f3:c3=.string s:=by simpa using e3
    subst f0 f1 f2 f3 hx3
    have we:∀(i:Nat) (t:TypeId) (z:DataW H),[3,3,3,9,22][i]?=some t→[x0.1,x1.1,x2.1,DataW.lit (Lit.string s.data.toList),x4.1][i]?=some z→∀n∈z.weights prog t,n≤reachBytes:=by
     intro i t z ht hz q hq
     refine hw q ?_
     show q∈DataW.weights prog 41 (.agg _)
     simp only[DataW.weights,underlying41]
     exact zaG i ht hz q hq
    have hs:s.size≤140737488351232:=we 3 9 _ rfl rfl s.data.toList.length (by simp[DataW.weights])
    have w4:=we 4 22 _ rfl rfl
    rcases DataW.trod_slice underlying22 (show _=some x4 from g4) with ⟨e4,_⟩ | ⟨a,len,cap,elems,rest,n',rfl,e4,hx4,_,hle,_,hel,hget4,hsp,_⟩
    ·have f4:c4=.slice none 0 0:=by simpa using e4
     subst f4
     exact ⟨.mk k m d s [],RepD.shut (bounds_i64 w0) (bounds_i64 w1) (bounds_i64 w2) hs ⟨none,0,0,rfl,rfl,by omega,by omega,rfl,rfl⟩⟩
    ·have f4:c4=.slice (some a) len cap:=by simpa using e4
     subst f4 hx4
     have hrest:=(hsp rfl).1
     have hcap:cap≤9223372036854775807:=by
      have:=w4 ((elems.length+rest.length)*64) (by simp[DataW.weights,underlying22,zcz])
      have h9:(elems.length+rest.length)*64≤140737488351232:=this
      omega
     by_cases h0:len=0
     ·subst h0
      exact ⟨.mk k m d s [],RepD.shut (bounds_i64 w0) (bounds_i64 w1) (bounds_i64 w2) hs ⟨some a,0,cap,rfl,rfl,by omega,hcap,fun h=>absurd rfl h,by rw[RepC];trivial⟩⟩
     have hat:∀i (hi:i<len),∃cs',w.cells? 0 (a.add (i*5)) 5=some cs'∧DataW.trod enc prog w 0 (fun _=>true) true n' 41 cs'=some (elems[i]'(by omega)):=by
      intro i hi
      have hb:=hget4 i hi
      rw[zbM,List.getElem?_eq_getElem (by omega)] at hb
      exact Option.bind_eq_some_iff.1 hb
     obtain ⟨hspot,hblk⟩:a.spot=none∧a.block<w.heap.size:=by
      obtain ⟨cs',hc1,_⟩:=hat 0 (by omega)
      obtain ⟨_,hl5,hcs⟩:=World.cells?_some hc1
      have h00:=hcs 0 (by omega)
      rw[List.getElem?_eq_getElem (by omega)] at h00
      have:=zbr h00
      simpa[Addr.add] using this
     have hcell:∀i,i<len→∃x c0 c1 c2 c3 c4,w.cell? ⟨a.block,a.off+i*5,none⟩=some c0∧w.cell? ⟨a.block,a.off+i*5+1,none⟩=some c1∧w.cell? ⟨a.block,a.off+i*5+2,none⟩=some c2∧w.cell? ⟨a.block,a.off+i*5+3,none⟩=some c3∧w.cell? ⟨a.block,a.off+i*5+4,none⟩=some c4∧RepD w w.heap.size x (.agg #[c0,c1,c2,c3,c4]):=by
      intro i hi
      obtain ⟨cs',hc1,hc2⟩:=hat i hi
      obtain ⟨_,hl5,hcs⟩:=World.cells?_some hc1
      rw[zaP hspot] at hcs
      have hcs2:∀j,j<5→w.cell? ⟨a.block,a.off+i*5+j,none⟩=cs'[j]?:=by
       intro j hj
       have:=hcs j hj
       rw[zaP rfl] at this
       exact this
      match cs',hl5 with
      | [a0,a1,a2,a3,a4],_=>
       obtain ⟨x,hx⟩:=ih n' (by omega) _ _ hc2 (fun q hq=>w4 q (by
        simp only[DataW.weights,underlying22,List.mem_cons,List.mem_append]
        refine Or.inr (Or.inl (zaR (d:=(elems[i]'(by omega)).1) ?_ q hq))
        exact List.mem_map_of_mem (List.getElem_mem _)))
       exact ⟨x,a0,a1,a2,a3,a4,hcs2 0 (by omega),hcs2 1 (by omega),hcs2 2 (by omega),hcs2 3 (by omega),hcs2 4 (by omega),hx⟩
     obtain ⟨l,hl,hr⟩:=zca len a.off hcell
     exact ⟨.mk k m d s l,RepD.shut (bounds_i64 w0) (bounds_i64 w1) (bounds_i64 w2) hs ⟨some a,len,cap,rfl,hl.symm,hle,hcap,fun _=>⟨hspot,hblk⟩,hr⟩⟩
end
end
section
open Go.RowKit Go.Deep Go.ChangeShapes Go.WideShapes Go.ChangeAt
section
variable {H : Type} {enc : TypeId × Value → H}
theorem zdZ {w:World} (fuel:Nat) (c4:Value) (x4:DataW H × List MemPlace) (g4:DataW.trod enc prog w 0 (fun _=>true) true fuel 22 [c4]=some x4) (w4:∀n∈x4.1.weights prog 22,n≤reachBytes):∃l,RepS w w.heap.size l c4:=by
 rcases DataW.trod_slice underlying22 g4 with ⟨e4,_⟩ | ⟨a,len,cap,elems,rest,n',rfl,e4,hx4,_,hle,_,hel,hget4,hsp,_⟩
 ·have f4:c4=.slice none 0 0:=by simpa using e4
  subst f4
  exact ⟨[],none,0,0,rfl,rfl,by omega,by omega,rfl,rfl⟩
 ·have f4:c4=.slice (some a) len cap:=by simpa using e4
  subst f4 hx4
  have hrest:=(hsp rfl).1
  have hcap:cap≤9223372036854775807:=by
   have:=w4 ((elems.length+rest.length)*64) (by simp[DataW.weights,underlying22,zcz])
   have h9:(elems.length+rest.length)*64≤140737488351232:=this
   omega
  by_cases h0:len=0
  ·subst h0
   exact ⟨[],some a,0,cap,rfl,rfl,by omega,hcap,fun h=>absurd rfl h,by rw[RepC];trivial⟩
  have hat:∀i (hi:i<len),∃cs',w.cells? 0 (a.add (i*5)) 5=some cs'∧DataW.trod enc prog w 0 (fun _=>true) true n' 41 cs'=some (elems[i]'(by omega)):=by
   intro i hi
   have hb:=hget4 i hi
   rw[zbM,List.getElem?_eq_getElem (by omega)] at hb
   exact Option.bind_eq_some_iff.1 hb
  obtain ⟨hspot,hblk⟩:a.spot=none∧a.block<w.heap.size:=by
   obtain ⟨cs',hc1,_⟩:=hat 0 (by omega)
   obtain ⟨_,hl5,hcs⟩:=World.cells?_some hc1
   have h00:=hcs 0 (by omega)
   rw[List.getElem?_eq_getElem (by omega)] at h00
   have:=zbr h00
   simpa[Addr.add] using this
  have hcell:∀i,i<len→∃x c0 c1 c2 c3 c4,w.cell? ⟨a.block,a.off+i*5,none⟩=some c0∧w.cell? ⟨a.block,a.off+i*5+1,none⟩=some c1∧w.cell? ⟨a.block,a.off+i*5+2,none⟩=some c2∧w.cell? ⟨a.block,a.off+i*5+3,none⟩=some c3∧w.cell? ⟨a.block,a.off+i*5+4,none⟩=some c4∧RepD w w.heap.size x (.agg #[c0,c1,c2,c3,c4]):=by
   intro i hi
   obtain ⟨cs',hc1,hc2⟩:=hat i hi
   obtain ⟨_,hl5,hcs⟩:=World.cells?_some hc1
   rw[zaP hspot] at hcs
   have hcs2:∀j,j<5→w.cell? ⟨a.block,a.off+i*5+j,none⟩=cs'[j]?:=by
    intro j hj
    have:=hcs j hj
    rw[zaP rfl] at this
    exact this
   match cs',hl5 with
   | [a0,a1,a2,a3,a4],_=>
    obtain ⟨x,hx⟩:=zeQ n' _ _ hc2 (fun q hq=>w4 q (by
     simp only[DataW.weights,underlying22,List.mem_cons,List.mem_append]
     refine Or.inr (Or.inl (zaR (d:=(elems[i]'(by omega)).1) ?_ q hq))
     exact List.mem_map_of_mem (List.getElem_mem _)))
    exact ⟨x,a0,a1,a2,a3,a4,hcs2 0 (by omega),hcs2 1 (by omega),hcs2 2 (by omega),hcs2 3 (by omega),hcs2 4 (by omega),hx⟩
  obtain ⟨l,hl,hr⟩:=zca len a.off hcell
  exact ⟨l,some a,len,cap,rfl,hl.symm,hle,hcap,fun _=>⟨hspot,hblk⟩,hr⟩
theorem zgM {ts:List TypeId} {l:List (DataW H)} (h:(DataW.weightsEach prog ts l).all (·≤reachBytes)=true) (i:Nat) {t:TypeId} {d:DataW H} (ht:ts[i]?=some t) (hd:l[i]?=some d):∀n∈d.weights prog t,n≤reachBytes:=fun n hn=>by
 have:=List.all_eq_true.1 h n (zaG i ht hd n hn)
 simpa using this
end
end
section
open Go.RowKit Go.Deep Go.ChangeShapes Go.WideShapes Go.ChangeAt
namespace Dat
end Dat
section
variable {H : Type} {enc : TypeId × Value → H}
end
end
end Go.Proofs.YtdcajmeeeoofgaaGreatDoor
