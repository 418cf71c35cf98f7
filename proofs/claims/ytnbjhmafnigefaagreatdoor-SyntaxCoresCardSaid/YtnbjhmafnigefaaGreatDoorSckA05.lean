/- .. -/
import Derived.Deep.LoopGhost
import Derived.OwnWalk
import Derived.IntWalk
import Derived.Laws.OwnMore
import Derived.BigRegion
import Derived.Deep.AppendLies
import Derived.Deep.Cut
import Derived.Deep.CutRange
import Derived.Deep.DeepCutAuto
import Derived.WalkLawsBesides
import Derived.Test.YtnbjhmafnigefaaGreatDoorSckA04
open Go.Proofs.Tryz
set_option maxRecDepth 100000
set_option maxHeartbeats 16000000
namespace Go.Proofs.YtnbjhmafnigefaaGreatDoor
section
open Go Go.RowKit
noncomputable def hide (W:World) (S:Nat->Prop):World:={ W with heap:=W.heap.mapIdx fun i o=>@ite _ (S i) (Classical.propDecidable _) (.deferred none) o }
theorem zdX {W:World} {S:Nat->Prop} {c:Nat} (h:¬S c):(hide W S).heap[c]?=W.heap[c]?:=by
 simp only[hide,Array.getElem?_mapIdx]
 simp only[if_neg h,Option.map_id_fun',id]
theorem za7 (W:World) (S:Nat->Prop):(hide W S).heap.size=W.heap.size:=by simp[hide]
theorem za0 {W:World} {S:Nat->Prop} {c o:Nat} (h:¬S c):(hide W S).cell? ⟨c,o,none⟩=W.cell? ⟨c,o,none⟩:=by
 unfold World.cell?
 rw[show (hide W S).heap[({ block:=c,off:=o,spot:=none }:Addr).block]?=W.heap[c]? from zdX h]
theorem zj4 {W:World} {S:Nat->Prop} {c o:Nat} (h:S c):(hide W S).cell? ⟨c,o,none⟩=none:=by
 have e:(hide W S).heap[c]?=W.heap[c]?.map fun _=>.deferred none:=by
  simp only[hide,Array.getElem?_mapIdx]
  simp only[if_pos h]
 unfold World.cell?
 rw[show (hide W S).heap[({ block:=c,off:=o,spot:=none }:Addr).block]?=W.heap[c]?.map fun _=>.deferred none from e]
 cases W.heap[c]?<;>rfl
theorem zaa {W:World} {S:Nat->Prop} {c o:Nat} {v:Value} (h:(hide W S).cell? ⟨c,o,none⟩=some v):¬S c∧W.cell? ⟨c,o,none⟩=some v:=by
 by_cases hc:S c
 ·rw[zj4 hc] at h;cases h
 ·exact ⟨hc,by rwa[za0 hc] at h⟩
def Shown (W:World) (S:Nat->Prop) (W':World) (S':Nat->Prop):Prop:=∀c o u,¬S c->W.cell? ⟨c,o,none⟩=some u->¬S' c∧W'.cell? ⟨c,o,none⟩=some u
theorem Shown.cells {W W':World} {S S':Nat->Prop} (h:Shown W S W' S'):∀c o u,(hide W S).cell? ⟨c,o,none⟩=some u->(hide W' S').cell? ⟨c,o,none⟩=some u:=fun c o u hc=>by
 obtain ⟨h1,h2⟩:=zaa hc
 obtain ⟨h3,h4⟩:=h c o u h1 h2
 rw[za0 h3];exact h4
theorem Shown.trans {A B C:World} {S T U:Nat->Prop} (h:Shown A S B T) (h':Shown B T C U):Shown A S C U:=fun c o u hc hu=>(h c o u hc hu).elim fun h1 h2=>h' c o u h1 h2
theorem Shown.less (W:World) {S S':Nat->Prop} (h:∀b,b<W.heap.size->S' b->S b):Shown W S W S':=fun c _o _u hc hu=>⟨fun hs=>hc (h c (zai hu) hs),hu⟩
theorem Shown.turned {W W':World} {S T:Nat->Prop} (h:Turned T W W') (hT:∀b,b<W.heap.size->T b->S b):Shown W S W' S:=fun c o u hc hu=>by
 have hlt:=zai hu
 refine ⟨hc,?_⟩
 unfold World.cell? at hu ⊢
 rw[show W'.heap[({ block:=c,off:=o,spot:=none }:Addr).block]?=W.heap[c]? from h.block c hlt fun ht=>hc (hT c hlt ht)]
 exact hu
theorem Shown.below {W W':World} {S:Nat->Prop} (h:Below W.heap.size W W'):Shown W S W' S:=Shown.turned (T:=fun _=>False) (Turned.of_below h) fun _ _ h=>h.elim
theorem Shown.five (W:World) {S:Nat->Prop} {B:Nat} (hB:S B) (d0 d1 d2 d3 d4:Value):Shown W S (set5 W B d0 d1 d2 d3 d4) S:=fun c o u hc hu=>⟨hc,by rw[zco _ _ _ _ _ _ _ (fun e=>hc (by subst e;exact hB))];exact hu⟩
theorem RepD.shown {W W':World} {S S':Nat->Prop} {B B':Nat} {x:Dat} {v:Value} (h:RepD (hide W S) B x v) (hs:Shown W S W' S') (hB:B<=B'):RepD (hide W' S') B' x v:=((zfc hs.cells).1 _ _ h).wider hB
theorem RepS.shown {W W':World} {S S':Nat->Prop} {B B':Nat} {l:List Dat} {v:Value} (h:RepS (hide W S) B l v) (hs:Shown W S W' S') (hB:B<=B'):RepS (hide W' S') B' l v:=(RepS.mono hs.cells h).wider hB
theorem CellsD.shown {W W':World} {S S':Nat->Prop} {B B':Nat} {l:List Dat} {xs:List Value} (h:CellsD (hide W S) B l xs) (hs:Shown W S W' S') (hB:B<=B'):CellsD (hide W' S') B' l xs:=h.mono fun _ _ hx=>hx.shown hs hB
theorem RepD.unhide {W:World} {S:Nat->Prop} {B:Nat} {x:Dat} {v:Value} (h:RepD (hide W S) B x v):RepD W B x v:=(zfc fun _ _ _ h=>(zaa h).2).1 _ _ h
theorem RepS.unhide {W:World} {S:Nat->Prop} {B:Nat} {l:List Dat} {v:Value} (h:RepS (hide W S) B l v):RepS W B l v:=RepS.mono (fun _ _ _ h=>(zaa h).2) h
theorem RepD.dug {W:World} {S:Nat->Prop} {B:Nat} {x:Dat} {v:Value} (h:RepD W B x v) (hS:∀b,S b->B<=b):RepD (hide W S) B x v:=
 (zeZ fun c o hc=>za0 fun hs=>by have:=hS c hs;omega).1 _ _ h
theorem zdF {W:World} {S:Nat->Prop} {base n size:Nat} {e:TypeId} {v:Value} {xs:List Value} (h:W.ownsRow base e size v n xs) (hS:∀g,v.ownBlock=some g->¬S g):(hide W S).ownsRow base e size v n xs:=by
 refine ⟨h.1,?_⟩
 rcases h.2 with h' | ⟨g,cap,cur,rfl,h2,h3,h4⟩
 ·exact .inl h'
 ·exact .inr ⟨g,cap,cur,rfl,h2,by rw[zdX (hS g rfl)];exact h3,h4⟩
end
section
open Go
section
variable {P : Program} {ops : Array Oper} {md : Region.Mode}
def backB (md:Region.Mode) (ops:Array Oper):Bool:=(List.range ops.size).all fun i=>((ops[i]?).map (·.after.all fun e=>!Region.binds md e || decide (e.on<i))).getD true
theorem zhr {n:Nat} {listed:Array Bool} (hb:backB md ops=true) (hs:listed.size=ops.size) (h:∃i,i<n∧i<ops.size∧listed.getD i true=false):Region.ready md ops listed≠[]:=by
 obtain ⟨i,hi⟩:=h
 induction i using Nat.strongRecOn with
 | _ i ih=>
  by_cases hr:i∈Region.ready md ops listed
  ·intro h0;rw[h0] at hr;cases hr
  ·obtain ⟨o,ho⟩:∃o,ops[i]?=some o:=⟨_,Array.getElem?_eq_getElem hi.2.1⟩
   have:∃e∈o.after,Region.binds md e=true∧listed.getD e.on false=false:=by
    apply Classical.byContradiction
    intro hn
    exact hr (mem_ready.2 ⟨hi.2.2,o,ho,fun e he hb'=>by
     cases hl:listed.getD e.on false with
     | true=>rfl
     | false=>exact absurd ⟨e,he,hb',hl⟩ hn⟩)
   obtain ⟨e,he,hbe,hl⟩:=this
   have hlt:e.on<i:=by
    have:=List.all_eq_true.1 hb i (List.mem_range.2 hi.2.1)
    rw[ho] at this
    simp only[Option.map_some,Option.getD_some] at this
    have:=Array.all_eq_true_iff_forall_mem.1 this e he
    simpa[hbe] using this
   exact ih e.on hlt ⟨by omega,by omega,getD_in (by rw[hs];omega) hl⟩
theorem zdS {n g:Nat} {I:Array Bool->Act->World->Prop} {Q:Exit->Act->World->Prop} (hb:backB md ops=true) (hs:Region.sinkB md ops n=true) (hc:Region.chainB md ops n=true) (hn:n<ops.size)
  (hstep:∀listed a w i,I listed a w->i<n->i∈Region.ready md ops listed->wpOp P ops Q i (fun a' w'=>I (listed.setIfInBounds i true) a' w') a w)
  (hend:∀listed a w,I listed a w->HeadInv md ops n listed->(∀i,i<n->listed.getD i true=true)->wpAny P md ops Q g listed a w) :
  ∀(f:Nat) (listed:Array Bool) (a:Act) (w:World),((List.range n).filter fun i=>!listed.getD i true).length=f->HeadInv md ops n listed->I listed a w->wpAny P md ops Q (f+g) listed a w
 | 0,listed,a,w,hf,inv,h=>by
  rw[Nat.zero_add]
  refine hend listed a w h inv fun i hi=>?_
  have h0:=List.eq_nil_of_length_eq_zero hf
  rw[List.filter_eq_nil_iff] at h0
  have:=h0 i (List.mem_range.2 hi)
  simpa using this
 | f+1,listed,a,w,hf,inv,h=>by
  rw[show f+1+g=(f+g)+1 by omega]
  have hex:∃i,i<n∧i<ops.size∧listed.getD i true=false:=by
   obtain ⟨i,hi⟩:=List.exists_mem_of_length_pos (by rw[hf];omega)
   rw[List.mem_filter,List.mem_range] at hi
   exact ⟨i,hi.1,by omega,by simpa using hi.2⟩
  refine ⟨fun h0=>absurd h0 (zhr hb inv.size hex),fun i hi=>?_⟩
  have hin:i<n:=by
   rcases Nat.lt_or_ge i n with h' | h'
   ·exact h'
   ·obtain ⟨j,hj,_,hjl⟩:=hex
    exact absurd hi (tail_waits hs hc hn inv _ j rfl hj hjl i h')
  refine wpOp_mono (fun a' w' h'=>zdS hb hs hc hn hstep hend f _ a' w' ?_ (inv.set hi hin) h') (hstep listed a w i h hin hi)
  have hun:=(mem_ready.1 hi).1
  have hlt:i<listed.size:=by rw[inv.size];omega
  have e:((List.range n).filter fun k=>!listed.getD k true)=((List.range n).filter fun k=>!listed.getD k true):=rfl
  have key:((List.range n).filter fun k=>!(listed.setIfInBounds i true).getD k true)=(((List.range n).filter fun k=>!listed.getD k true)).erase i:=by
   rw[List.Nodup.erase_eq_filter (List.nodup_range.sublist List.filter_sublist),List.filter_filter]
   apply List.filter_congr
   intro k hk
   by_cases hki:k=i
   ·subst hki
    simp[hlt]
   ·rw[getD_set_ne true (Ne.symm hki)]
    simp[hki]
  rw[key,List.length_erase_of_mem (by rw[List.mem_filter,List.mem_range];exact ⟨hin,by simpa using hun⟩),hf]
  rfl
def slotsB (ops:Array Oper) (n m:Nat):Bool:=(List.range n).all fun i=>(List.range n).all fun j=>match ops[i]?,ops[j]? with
 | some oi,some oj=>(match oi.dst,oj.dst with | some d,some e=>decide (d<m)&&(decide (i=j) || decide (d≠e)) | _,_=>true)
 | _,_=>true
def guardsB (md:Region.Mode) (ops:Array Oper) (n m:Nat) (gs:List Nat):Bool:=(List.range n).all fun i=>match ops[i]? with
 | some oi=>(match oi.guard with
  | none=>true
  | some (g,b)=>b&&(gs.contains g&&(decide (g<n)&&((match ops[g]? with | some og=>(match og.dst with | some d=>decide (d<m) | none=>false) | none=>false)&&oi.after.any fun e=>Region.binds md e&&e.on==g))))
 | none=>true
def MonoI (ops:Array Oper) (n:Nat) (Ext:World->World->Prop) (R:Nat->Value->World->Prop) (w0:World) (a0:Act) (listed:Array Bool) (a:Act) (w:World):Prop:=
 a.defers=a0.defers∧a.tmps.size=a0.tmps.size∧Ext w0 w∧(∀i o d,i<n->ops[i]?=some o->listed.getD i false=true->o.dst=some d->R i (a.tmps.getD d undef) w) ∧
  (∀t,(∀i o,i<n->ops[i]?=some o->o.dst≠some t)->a.tmps.getD t undef=a0.tmps.getD t undef)
theorem zaO {a:Act} {d t:Nat} {v:Value} (hd:d<a.tmps.size):(a.put (some d) v).tmps.getD t undef=if d=t then v else a.tmps.getD t undef:=by
 show (a.tmps.setIfInBounds d v).getD t undef=_
 by_cases h:d=t
 ·subst h
  simp[hd]
 ·rw[if_neg h]
  simp[Array.getElem?_setIfInBounds_ne h]
def OneStep (P:Program) (ops:Array Oper) (n:Nat) (Ext:World->World->Prop) (R:Nat->Value->World->Prop) (w0:World) (a0:Act) (Q:Exit->Act->World->Prop) (i:Nat) (o:Oper):Prop:=
 ∀(a:Act) (w:World) (K:Act->World->Prop),a.defers=a0.defers->a.tmps.size=a0.tmps.size->Ext w0 w->(∀j oj d,j<n->ops[j]?=some oj->(∃e∈o.after,Region.binds md e=true∧e.on=j)->oj.dst=some d->R j (a.tmps.getD d undef) w) ->
  (∀t,(∀i o,i<n->ops[i]?=some o->o.dst≠some t)->a.tmps.getD t undef=a0.tmps.getD t undef)->(∀v w',R i v w'->Ext w w'->K (a.put o.dst v) w')->o.wp P a w K Q
theorem zcg {n m:Nat} {gs:List Nat} {R:Nat->Value->World->Prop} {a:Act} {w:World} {i:Nat} {o:Oper} (hgd:guardsB md ops n m gs=true) (hG:∀g∈gs,∀v w,R g v w->v=.bool true) (hi:i<n) (ho:ops[i]?=some o) (hm:m<=a.tmps.size)
  (jb:∀j oj d,j<n->ops[j]?=some oj->(∃e∈o.after,Region.binds md e=true∧e.on=j)->oj.dst=some d->R j (a.tmps.getD d undef) w):Region.wanted o (yielded ops a.tmps)=true:=by
 have h1:=List.all_eq_true.1 hgd i (List.mem_range.2 hi)
 simp only[ho] at h1
 unfold Region.wanted
 cases hg:o.guard with
 | none=>rfl
 | some p=>
  obtain ⟨g,b⟩:=p
  rw[hg] at h1
  simp only[Bool.and_eq_true,decide_eq_true_eq] at h1
  obtain ⟨rfl,h2,h3,h4,h5⟩:=h1
  cases hog:ops[g]? with
  | none=>rw[hog] at h4;cases h4
  | some og=>
   rw[hog] at h4
   simp only at h4
   cases hd:og.dst with
   | none=>rw[hd] at h4;cases h4
   | some d=>
    rw[hd] at h4
    simp only[decide_eq_true_eq] at h4
    rw[Array.any_eq_true'] at h5
    obtain ⟨e,he,hb⟩:=h5
    simp only[Bool.and_eq_true,beq_iff_eq] at hb
    have hv:=hG g (List.contains_iff_mem.1 h2) _ _ (jb g og d h3 hog ⟨e,he,hb.1,hb.2⟩ hd)
    have hlt:d<a.tmps.size:=qzM h4 hm
    have hv2:a.tmps[d]?=some (.bool true):=by
     rw[Array.getElem?_eq_getElem hlt]
     simpa[Array.getD,hlt] using hv
    simp[yielded,hog,hd,hv2]
theorem zix {n:Nat} {Ext:World->World->Prop} {R:Nat->Value->World->Prop} {w0:World} {a0:Act} {Q:Exit->Act->World->Prop} (l:List Oper) (hl:l.toArray=ops) (hb:backB md ops=true) (hs:Region.sinkB md ops n=true) (hc:Region.chainB md ops n=true) (hn:n<ops.size) (hd:slotsB ops n a0.tmps.size=true) (gs:List Nat) (hgd:guardsB md ops n a0.tmps.size gs=true) (hG:∀g∈gs,∀v w,R g v w->v=.bool true)
  (hseq:∀listed,HeadInv md ops n listed->(∀i,i<n->listed.getD i true=true)->Region.seqB md ops (ops.size-n) n listed=true)
  (htr:∀{A B C:World},Ext A B->Ext B C->Ext A C) (h0:Ext w0 w0) (hR:∀i v A B,i<n->R i v A->Ext A B->R i v B)
  (hops:∀i o,i<n->ops[i]?=some o->OneStep (md:=md) P ops n Ext R w0 a0 Q i o)
  (hend:∀a w,a.defers=a0.defers->a.tmps.size=a0.tmps.size->Ext w0 w->(∀i o d,i<n->ops[i]?=some o->o.dst=some d->R i (a.tmps.getD d undef) w)->(∀t,(∀i o,i<n->ops[i]?=some o->o.dst≠some t)->a.tmps.getD t undef=a0.tmps.getD t undef)->wpList P ops Q (l.drop n) a w) :
  wpAny P md ops Q ops.size (Array.replicate ops.size false) a0 w0:=by
 have hslot:∀i j oi oj d,i<n->j<n->ops[i]?=some oi->ops[j]?=some oj->oi.dst=some d->d<a0.tmps.size∧(oj.dst=some d->i=j):=by
  intro i j oi oj d hi hj hoi hoj hdi
  have h1:=List.all_eq_true.1 (List.all_eq_true.1 hd i (List.mem_range.2 hi)) i (List.mem_range.2 hi)
  have h2:=List.all_eq_true.1 (List.all_eq_true.1 hd i (List.mem_range.2 hi)) j (List.mem_range.2 hj)
  simp only[hoi,hoj,hdi,Bool.and_eq_true,decide_eq_true_eq] at h1 h2
  refine ⟨h1.1,fun he=>?_⟩
  rw[he] at h2
  have h3:=h2
  simp at h3
  exact h3.2
 have inv0:HeadInv md ops n (Array.replicate ops.size false):=
  ⟨by simp,fun j oj _ hl=>(by rw[getD_replicate_false] at hl;cases hl),fun t _ ht=>getD_in (by simpa using ht) (getD_replicate_false _ _)⟩
 have hcount:((List.range n).filter fun i=>!(Array.replicate ops.size false).getD i true).length=n:=by
  rw[List.filter_eq_self.2]
  ·simp
  ·intro i hi
   have:i<ops.size:=by have:=List.mem_range.1 hi;omega
   simp[this]
 have:=zdS (P:=P) (Q:=Q) (g:=ops.size-n) (I:=MonoI ops n Ext R w0 a0) hb hs hc hn ?_ ?_ n _ a0 w0 hcount inv0
  ⟨rfl,rfl,h0,fun i o d _ _ hl=>(by rw[getD_replicate_false] at hl;cases hl),fun _ _=>rfl⟩
 ·rwa[show n+(ops.size-n)=ops.size by omega] at this
 ·rintro listed a w i ⟨hdf,hsz,hex,hval,jm⟩ hi hr
  obtain ⟨hun,o,ho,hdeps⟩:=mem_ready.1 hr
  unfold wpOp
  simp only[ho]
  have hdep2:=(fun j oj d hj hoj (h:∃e∈o.after,Region.binds md e=true∧e.on=j) hd'=>by
   obtain ⟨e,he,hbe,hon⟩:=h
   exact hval j oj d hj hoj (by rw[<-hon];exact hdeps e he hbe) hd':∀j oj d,j<n->ops[j]?=some oj->(∃e∈o.after,Region.binds md e=true∧e.on=j)->oj.dst=some d->R j (a.tmps.getD d undef) w)
  rw[if_pos (zcg hgd hG hi ho (by rw[hsz];exact qzL) hdep2)]
  left
  refine hops i o hi ho a w _ hdf hsz hex hdep2 jm ?_
  intro v w' hRv hEx
  refine ⟨?_,?_,htr hex hEx,?_,?_⟩
  ·cases o.dst<;>exact hdf
  ·cases hdst:o.dst with
   | none=>exact hsz
   | some d=>simpa[Act.put] using hsz
  ·intro k ok d hk hok hlk hdk
   by_cases hki:k=i
   ·subst hki
    obtain rfl:o=ok:=Option.some.inj (ho.symm.trans hok)
    rw[hdk,zaO (by rw[hsz];exact (hslot k k o o d hk hk ho ho hdk).1),if_pos rfl]
    exact hRv
   ·rw[getD_set_ne false (Ne.symm hki)] at hlk
    have hv:=hR k _ w w' hk (hval k ok d hk hok hlk hdk) hEx
    cases hdst:o.dst with
    | none=>exact hv
    | some d'=>
     rw[zaO (by rw[hsz];exact (hslot i i o o d' hi hi ho ho hdst).1),if_neg ?_]
     ·exact hv
     ·rintro rfl
      exact hki ((hslot k i ok o d' hk hi hok ho hdk).2 hdst)
  ·intro t ht
   cases hdst:o.dst with
   | none=>exact jm t ht
   | some d'=>
    rw[zaO (by rw[hsz];exact (hslot i i o o d' hi hi ho ho hdst).1),if_neg ?_]
    ·exact jm t ht
    ·rintro rfl;exact ht i o hi ho hdst
 ·rintro listed a w ⟨hdf,hsz,hex,hval,jm⟩ inv hall
  subst hl
  have hdl:(l.drop n).length=l.toArray.size-n:=by simp
  have h1:=wpAny_of_seq (md:=md) (Q':=Q) (l.drop n) n listed a w (fun j=>by simp[List.getElem?_drop]) (by rw[hdl];exact hseq listed inv hall)
   (hend a w hdf hsz hex (fun i o d hi ho hd'=>hval i o d hi ho (by
    have:=hall i hi
    have hlt:i<listed.size:=by rw[inv.size];omega
    simpa[hlt] using this) hd') jm)
  rwa[hdl] at h1
theorem zh4 {o:Oper} {a:Act} {w:World} {K:Act->World->Prop} {Q:Exit->Act->World->Prop} (h:o.wp P a w K (fun _ _ _=>False)):o.wp P a w K Q:=by
  unfold Oper.wp at *
  generalize (execOp a.eval o).run P w=r at *
  cases r with
  | ok n w'=>
    cases n<;>simp only[Oper.upon] at h ⊢ <;>
      first
        | exact h
        | (refine Calls.mono h (fun e w'' he=>?_)
           cases e with
           | returned v=>exact he
           | panicked c=>exact he.elim
           | outgrown=>obtain ⟨_,_,hf⟩:=he;exact hf.elim)
  | halt x w'=>cases x<;>simp only[Oper.upon] at h ⊢<;>exact h.elim
theorem zc7 {o:Oper} {a:Act} {w:World} {K:Act->World->Prop} {Q:Exit->Act->World->Prop} (hg:Region.wanted o (yielded ops a.tmps)=true)
    (h:wpList P ops (fun e a' w'=>e=.normal∧K a' w') [o] a w):o.wp P a w K Q:=by
  unfold wpList at h
  rw[if_pos hg] at h
  rcases h with h | ⟨_,_,_,hf,_⟩
  · refine zh4 (Oper.wp_mono (K:=wpList P ops (fun e a' w'=>e=.normal∧K a' w') []) (fun a' w' h'=>(show (Exit.normal=Exit.normal∧K a' w') from h').2) ?_)
    have h2:o.wp P a w (wpList P ops (fun e a' w'=>e=.normal∧K a' w') []) (fun e a' w'=>e=.normal∧K a' w'):=h
    clear h
    unfold Oper.wp at *
    generalize (execOp a.eval o).run P w=r at *
    cases r with
    | ok n w'=>
      cases n<;>simp only[Oper.upon] at h2 ⊢ <;>
        first
          | exact h2
          | (refine Calls.mono h2 (fun e w'' he=>?_)
             cases e with
             | returned v=>exact he
             | panicked c=>cases he.1
             | outgrown=>obtain ⟨_,_,hf,_⟩:=he;cases hf)
          | exact Rows.mono h2 (fun _ _ he=>he)
    | halt x w'=>cases x<;>simp only[Oper.upon] at h2 ⊢<;>first | (cases h2.1) | exact h2
  · cases hf
def headDone (n m:Nat):Array Bool:=(List.replicate n true++List.replicate (m-n) false).toArray
theorem zbV {n:Nat} {listed:Array Bool} (hn:n<ops.size) (inv:HeadInv md ops n listed) (h:∀i,i<n->listed.getD i true=true):listed=headDone n ops.size:=by
 apply Array.ext
 ·rw[inv.size];simp[headDone];omega
 ·intro i h1 h2
  simp only[headDone,List.getElem_toArray]
  by_cases hi:i<n
  ·rw[List.getElem_append_left (by simpa using hi)]
   have:=h i hi
   simpa[h1] using this
  ·rw[List.getElem_append_right (by simpa using (by omega:n<=i))]
   have:=inv.tail i (by omega) (by rw[<-inv.size];exact h1)
   simpa[h1] using this
def monoG (ops:Array Oper) (n m:Nat):Bool:=
 backB .any ops&&(Region.sinkB .any ops n&&(Region.chainB .any ops n&&(decide (n<ops.size)&&(slotsB ops n m&&Region.seqB .any ops (ops.size-n) n (headDone n ops.size)))))
def monoB (ops:Array Oper) (n m:Nat):Bool:=monoG ops n m&&guardsB .any ops n m []
def Rest (ops:Array Oper) (n:Nat) (a0 a:Act):Prop:=∀t,(∀i o,i<n->ops[i]?=some o->o.dst≠some t)->a.tmps.getD t undef=a0.tmps.getD t undef
def StepPost (R:Nat->Value->World->Prop) (Ext:World->World->Prop) (i:Nat) (o:Oper) (a:Act) (w1:World) (e:Exit) (a':Act) (w':World):Prop:=e=.normal∧∃v,a'=a.put o.dst v∧R i v w'∧Ext w1 w'
theorem zdx {id:Nat} {Q:Exit->Act->World->Prop} {a0:Act} {w:World} {l:List Oper} (n:Nat) (R:Nat->Value->World->Prop) (Ext:World->World->Prop) (hm:P.follows .mixedOrders=true) (gs:List Nat) (hB:monoG l.toArray n a0.tmps.size=true) (hgd:guardsB .any l.toArray n a0.tmps.size gs=true) (hG:∀g∈gs,∀v w,R g v w->v=.bool true)
  (htr:∀{A B C:World},Ext A B->Ext B C->Ext A C) (h0:Ext w.drew w.drew) (hR:∀i v A B,i<n->R i v A->Ext A B->R i v B)
  (hops:∀i o,i<n->l.toArray[i]?=some o->∀(a:Act) (w1:World),a.defers=a0.defers->a.tmps.size=a0.tmps.size->Ext w.drew w1->(∀j oj d,j<n->l.toArray[j]?=some oj->(∃e∈o.after,Region.binds .any e=true∧e.on=j)->oj.dst=some d->R j (a.tmps.getD d undef) w1)->Rest l.toArray n a0 a ->
   wpList P l.toArray (StepPost R Ext i o a w1) [o] a w1)
  (hend:∀a w1,a.defers=a0.defers->a.tmps.size=a0.tmps.size->Ext w.drew w1->(∀i o d,i<n->l.toArray[i]?=some o->o.dst=some d->R i (a.tmps.getD d undef) w1)->Rest l.toArray n a0 a->wpList P l.toArray Q (l.drop n) a w1) :
  (Code.region id l.toArray true).wp P Q a0 w:=by
 simp only[monoG,Bool.and_eq_true,decide_eq_true_eq] at hB
 obtain ⟨h1,h2,h3,h4,h5,h6⟩:=hB
 refine wp_region_any hm ?_
 refine zix (Ext:=Ext) (R:=R) l rfl h1 h2 h3 h4 h5 gs hgd hG (fun listed inv hall=>by rw[zbV h4 inv hall];exact h6) htr h0 hR ?_ hend
 intro i o hi ho a w1 K hdf hsz hex jb jm hK
 have hg:=zcg hgd hG hi ho (by rw[hsz];exact qzL) jb
 refine Oper.wp_mono ?_ (zc7 (ops:=l.toArray) hg (hops i o hi ho a w1 hdf hsz hex jb jm))
 rintro a' w' ⟨v,rfl,hRv,hEx⟩
 exact hK v w' hRv hEx
theorem zeq {id:Nat} {Q:Exit->Act->World->Prop} {a0:Act} {w:World} {l:List Oper} (n:Nat) (R:Nat->Value->World->Prop) (Ext:World->World->Prop) (hm:P.follows .mixedOrders=true) (hB:monoB l.toArray n a0.tmps.size=true)
  (htr:∀{A B C:World},Ext A B->Ext B C->Ext A C) (h0:Ext w.drew w.drew) (hR:∀i v A B,i<n->R i v A->Ext A B->R i v B)
  (hops:∀i o,i<n->l.toArray[i]?=some o->∀(a:Act) (w1:World),a.defers=a0.defers->a.tmps.size=a0.tmps.size->Ext w.drew w1->(∀j oj d,j<n->l.toArray[j]?=some oj->(∃e∈o.after,Region.binds .any e=true∧e.on=j)->oj.dst=some d->R j (a.tmps.getD d undef) w1)->Rest l.toArray n a0 a ->
   wpList P l.toArray (StepPost R Ext i o a w1) [o] a w1)
  (hend:∀a w1,a.defers=a0.defers->a.tmps.size=a0.tmps.size->Ext w.drew w1->(∀i o d,i<n->l.toArray[i]?=some o->o.dst=some d->R i (a.tmps.getD d undef) w1)->Rest l.toArray n a0 a->wpList P l.toArray Q (l.drop n) a w1) :
  (Code.region id l.toArray true).wp P Q a0 w:=by
 simp only[monoB,Bool.and_eq_true] at hB
 exact zdx n R Ext hm [] hB.1 hB.2 (fun _ h=>by cases h) htr h0 hR hops hend
def restB (ops:Array Oper) (n t:Nat):Bool:=(List.range n).all fun i=>match ops[i]? with | some o=>o.dst != some t | none=>true
theorem Rest.at {n:Nat} {a0 a:Act} (h:Rest ops n a0 a) (t:Nat) (hB:restB ops n t=true):a.tmps.getD t undef=a0.tmps.getD t undef:=
 h t fun i o hi ho=>by
  have:=List.all_eq_true.1 hB i (List.mem_range.2 hi)
  simpa[ho] using this
def depB (ops:Array Oper) (n:Nat) (o:Oper) (j d:Nat):Bool:=decide (j<n)&&((match ops[j]? with | some oj=>oj.dst==some d | none=>false)&&o.after.any fun e=>Region.binds .any e&&e.on==j)
theorem zaX {n:Nat} {o:Oper} {R:Nat->Value->World->Prop} {a:Act} {w1:World} (h:∀j oj d,j<n->ops[j]?=some oj->(∃e∈o.after,Region.binds .any e=true∧e.on=j)->oj.dst=some d->R j (a.tmps.getD d undef) w1) (j d:Nat) (hB:depB ops n o j d=true):R j (a.tmps.getD d undef) w1:=by
 simp only[depB,Bool.and_eq_true,decide_eq_true_eq] at hB
 obtain ⟨h1,h2,h3⟩:=hB
 cases hj:ops[j]? with
 | none=>rw[hj] at h2;cases h2
 | some oj=>
  rw[hj] at h2
  rw[Array.any_eq_true'] at h3
  obtain ⟨e,he,hb⟩:=h3
  simp only[Bool.and_eq_true,beq_iff_eq] at hb
  exact h j oj d h1 hj ⟨e,he,hb.1,hb.2⟩ (by simpa using h2)
end
end
section
open Go.RowKit
theorem ziJ {W:World} {b n:Nat} {l:List Dat} {cs:List Value} (hn:n=l.length) (hm:n<=1000) (hb:b<W.heap.size) (h:CellsD W W.heap.size l cs) (hc:∀j u,cs[j]?=some u->W.cell? ⟨b,j,none⟩=some u):RepS W W.heap.size l (.slice (some ⟨b,0,none⟩) n n):=
 ⟨some ⟨b,0,none⟩,n,n,rfl,hn,qzL,by omega,fun _=>⟨rfl,hb⟩,h.repC fun j u hj=>by rw[Nat.zero_add];exact hc j u hj⟩
theorem zj1 {W:World} {b:Nat} {cs:Array Value} {t:TypeId} {fz:Nat × Nat} (h:W.heap[b]?=some (.cells cs t fz)) (j:Nat) {u:Value} (hj:cs[j]?=some u):W.cell? ⟨b,j,none⟩=some u:=by
 unfold World.cell?;rw[h];simpa using hj
theorem zi5 {W:World} {b n:Nat} {l:List Dat} {cs:List Value} {t:TypeId} {fz:Nat × Nat} (hn:n=l.length) (hm:n<=1000) (hb:W.heap[b]?=some (.cells cs.toArray t fz)) (h:CellsD W W.heap.size l cs):RepS W W.heap.size l (.slice (some ⟨b,0,none⟩) n n):=
 ziJ hn hm (Array.getElem?_eq_some_iff.1 hb).1 h fun j u hj=>zj1 hb j (by simpa using hj)
theorem zcJ {w w':World} (h:Env w) (hb:Below w.heap.size w w'):Env w':=((EnvAt.of h).kept hb).1
end
section
open Go Go.RowKit
def Rd.At (s:ByteArray) (a:Nat) (r:List UInt8):Prop:=a+r.length=s.size∧s.data.toList.drop a=r
theorem Rd.At.suf {s:ByteArray} {a:Nat} {r q:List UInt8} (h:Rd.At s a r) (hq:q <:+ r):Rd.At s (s.size-q.length) q:=by
 have hl:=hq.length_le
 refine ⟨by have:=h.1;omega,?_⟩
 obtain ⟨u,hu⟩:=hq
 have e:s.size-q.length=a+u.length:=by
  have:=h.1
  rw[<-hu,List.length_append] at this
  omega
 rw[e,<-List.drop_drop,h.2,<-hu,List.drop_left]
theorem Rd.At.pos {s:ByteArray} {a:Nat} {r:List UInt8} (h:Rd.At s a r):a=s.size-r.length:=by have:=h.1;omega
theorem Rd.At.cons {s:ByteArray} {a:Nat} {b:UInt8} {r:List UInt8} (h:Rd.At s a (b::r)):Rd.At s (a+1) r:=by
 have h1:=h.1
 simp only[qzN] at h1
 exact ⟨by omega,by rw[<-List.drop_drop,h.2];rfl⟩
theorem Rd.At.zero (s:ByteArray):Rd.At s 0 s.data.toList:=⟨by rw[Nat.zero_add];rfl,rfl⟩
theorem Rd.At.get {s:ByteArray} {a:Nat} {b:UInt8} {r:List UInt8} (h:Rd.At s a (b::r)):∃hlt:a<s.size,s[a]=b:=by
 have h1:=h.1
 simp only[qzN] at h1
 refine ⟨by omega,?_⟩
 have:=congrArg (·[0]?) h.2
 simp only[List.getElem?_drop,Nat.add_zero,List.getElem?_cons_zero] at this
 have h3:=(List.getElem?_eq_some_iff.1 this).2
 rw[<-h3]
 rfl
end
section
open Go.RowKit
end
section
open Go.RowKit
end
section
open Go.RowKit
def Five (w:World) (b:Nat) (v0 v1 v2 v3 v4:Value):Prop:=
 w.cell? ⟨b,0,none⟩=some v0∧w.cell? ⟨b,1,none⟩=some v1∧w.cell? ⟨b,2,none⟩=some v2∧w.cell? ⟨b,3,none⟩=some v3∧w.cell? ⟨b,4,none⟩=some v4
end
section
open Go.RowKit
theorem zfs {l:List Dat} {j:Nat} {x:Dat} (h:l[j]?=some x):Dat.list (l.drop j)=Dat.pair x (Dat.list (l.drop (j+1))):=by
 obtain ⟨hj,he⟩:=List.getElem?_eq_some_iff.1 h
 rw[<-he,List.drop_eq_getElem_cons hj,Dat.list]
end
section
open Go.RowKit Go.Shelf
attribute [local go_sem] Oper.semAt_some
def SB (S:Nat->Prop) (H b:Nat):Prop:=S b∨(H<=b∧b<H+2)
theorem zc5 {W:World} {S:Nat->Prop} {B:Nat} {x y:Dat} {a0 a1 a2 a3 a4 b0 b1 b2 b3 b4 d0 d1 d2 d3 d4:Value} (hB:S B) (hS:∀b,S b->b<W.heap.size) (hx:RepD (hide W S) W.heap.size x (.agg #[a0,a1,a2,a3,a4])) (hy:RepD (hide W S) W.heap.size y (.agg #[b0,b1,b2,b3,b4])) (t:TypeId) :
  RepD (hide ((set5 W B d0 d1 d2 d3 d4).alloc (.cells #[a0,a1,a2,a3,a4,b0,b1,b2,b3,b4] t)) S) ((set5 W B d0 d1 d2 d3 d4).alloc (.cells #[a0,a1,a2,a3,a4,b0,b1,b2,b3,b4] t)).heap.size (Dat.pair x y)
   (.agg #[.int .i64 6,.int .i64 0,.int .i64 0,.string ⟨#[]⟩,.slice (some ⟨W.heap.size,0,none⟩) 2 2]):=by
 have hs:=zan W B d0 d1 d2 d3 d4
 have hk:Shown W S ((set5 W B d0 d1 d2 d3 d4).alloc (.cells #[a0,a1,a2,a3,a4,b0,b1,b2,b3,b4] t)) S:=fun c o u hc h=>⟨hc,by
  rw[World.cell?_alloc_past _ _ _ (by rw[hs];exact zai h),zco _ _ _ _ _ _ _ (fun e=>hc (by subst e;exact hB))];exact h⟩
 have hn:∀i v,#[a0,a1,a2,a3,a4,b0,b1,b2,b3,b4][i]?=some v->(hide ((set5 W B d0 d1 d2 d3 d4).alloc (.cells #[a0,a1,a2,a3,a4,b0,b1,b2,b3,b4] t)) S).cell? ⟨W.heap.size,i,none⟩=some v:=fun i v h=>by
  rw[za0 (fun e=>by have:=hS _ e;omega),World.cell?_alloc_at _ _ _ _ hs.symm];exact h
 refine RepD.shut (by omega) (by omega) (by omega) (by decide) ⟨some ⟨W.heap.size,0,none⟩,2,2,rfl,rfl,by omega,by omega,fun _=>⟨rfl,by simp⟩,?_⟩
 refine RepC.two (hn 0 _ rfl) (hn 1 _ rfl) (hn 2 _ rfl) (hn 3 _ rfl) (hn 4 _ rfl) (hn 5 _ rfl) (hn 6 _ rfl) (hn 7 _ rfl) (hn 8 _ rfl) (hn 9 _ rfl) (hx.shown hk (by simp)) (hy.shown hk (by simp))
def DatPostH (S:Nat->Prop) (x:Dat) (w:World) (e:Ending) (w':World):Prop:=∃v,e=.returned v∧RepD (hide w' S) w'.heap.size x v∧Below w.heap.size w w'
theorem zf7 {w W:World} {S:Nat->Prop} {H:Nat} (hH:H=w.heap.size) (hb:Below w.heap.size w W):Shown w S W (SB S H):=fun c o u hc hu=>by
 have hlt:=zai hu
 refine ⟨fun h=>h.elim hc fun h=>by omega,?_⟩
 exact (hb.cell (p:=⟨c,o,none⟩) hlt).trans hu
theorem zjM {W W':World} {S:Nat->Prop} {H:Nat} (hk:∀c o u,¬SB S H c->W.cell? ⟨c,o,none⟩=some u->W'.cell? ⟨c,o,none⟩=some u):Shown W (SB S H) W' S:=fun c o u hc hu=>⟨fun h=>hc (.inl h),hk c o u hc hu⟩
theorem zhD (F:Fence) (n:Nat) (hF:F.fn 151) (hro:F.round=none) (hn:1<=n) (ll Bs n₀ B:Nat) (w0 U:World) (hU:∀b o u,U.cell? ⟨b,o,none⟩=some u->w0.cell? ⟨b,o,none⟩=some u) (l:List Dat) (o:Option Addr) (len cap:Nat) (hl:len=l.length) (hcap:len<=cap) (hmax:cap<=9223372036854775807)
  (hv:match o with | none=>l=[]∧cap=0 | some a=>(l≠[]->a.spot=none∧a.block<B)∧RepC U B l a.block a.off) (hB:B<=n₀) (J Jx:List (Item U B)->World->Prop)
  (hY:∀pre x W,J pre W->pre.length<len->YieldAt F (n-1) prog ll #[.int .i64 x.1.1,x.1.2.2] W fun e W'=>
   (e=.returned (.bool true)∧J (pre++[x]) W'∧(Below n₀ W W'∧W'.heap[Bs]?=W.heap[Bs]?))∨(e=.returned (.bool false)∧Jx (pre++[x]) W'))
  (W:World) (hW:Below n₀ w0 W) (hBs:Boxed W Bs 22 (.slice o len cap)) (h0:J [] W) :
  CallsIn F n prog 151 #[.func (.yield ll) #[] #[],.pointer (some ⟨Bs,0,none⟩)] W fun e W'=>(∃v,e=.returned v) ∧
   ((∃ys,ys.map Item.dat=l.reverse∧J ys W')∨(∃pre:List (Item U B),True∧Jx pre W')):=by
 have hs0:=hBs.cell
 have HL:=zh hl
 have HV:=zh hv
 clear hl hv
 refine callsIn_of_wp func151 rfl hF ?_ hro
 simp only[ntmps151,List.size_toArray,qzN,qzO,Nat.reduceAdd,Nat.reduceSub,Array.replicate_succ,Array.replicate_zero,List.push_toArray,List.append_toArray,List.nil_append,List.cons_append]
 gi_wp2
 have HBs:=zh hBs
 clear hBs hs0
 gi_loopw [3] (fun i wr=>∃(i':Int) (pre:List (Item U B)),i=.int .i64 i'∧-1<=i'∧i' < len∧pre.length=(len-1-i').toNat∧pre.map Item.dat=l.reverse.take pre.length∧J pre wr∧Below n₀ w0 wr∧wr.heap[Bs]?=W.heap[Bs]?) (fun i _=>(intOf i+1).toNat)
 case atStart=>exact ⟨_,[],rfl,by omega,by omega,by simp,by simp,h0,hW,rfl⟩
 case round=>
  obtain ⟨i',pre,rfl,h1,h2,h3,h4,hJs,hnx,hbx⟩:=hrel
  have hs1:Boxed wr Bs 22 (.slice o len cap):=hbx.trans HBs.out
  have hs2:=hs1.cell
  have H3:=zh h3
  have H4:=zh h4
  have HX:=zh hbx
  clear h3 h4 hbx hs1
  by_cases hlt:0<=i'
  ·obtain ⟨j,rfl⟩:∃j:Nat,i'=j:=⟨i'.toNat,by omega⟩
   have hj:j<len:=by omega
   obtain ⟨x,hx⟩:∃x,l[j]?=some x:=⟨_,List.getElem?_eq_getElem (by rw[<-HL.out];exact hj)⟩
   obtain ⟨b,off,k',n',d',s',l',o',len',cap',ho,hxe,e0,e1,e2,e3,e4,er⟩:=zat HV.out (Below.refl B U) hx
   obtain ⟨b',off',ho',hlt'⟩:∃b' off',o=some ⟨b',off',none⟩∧b' < n₀:=by
    have hvv:=HV.out
    rw[ho] at hvv
    have hne:l≠[]:=by rintro rfl;simp at hx
    exact ⟨b,off,ho,qzM (hvv.1 hne).2 hB⟩
   rw[ho] at ho'
   simp only[Option.some.injEq,Addr.mk.injEq] at ho'
   obtain ⟨rfl,rfl,_⟩:=ho'
   have g:∀i,wr.cell? ⟨b,i,none⟩=w0.cell? ⟨b,i,none⟩:=fun i=>hnx.cell (p:=⟨b,i,none⟩) hlt'
   have f0:=(g _).trans (hU _ _ _ e0)
   have f1:=(g _).trans (hU _ _ _ e1)
   have f2:=(g _).trans (hU _ _ _ e2)
   have f3:=(g _).trans (hU _ _ _ e3)
   have f4:=(g _).trans (hU _ _ _ e4)
   have HXx:=zh hx
   subst ho hxe
   clear g e0 e1 e2 e3 e4 hx
   obtain ⟨fn,tmps,assign,body,hy,hR⟩:=hY pre ⟨((j:Int),_,_),er⟩ wr hJs (by rw[H3.out];omega)
   dsimp only at hy
   gi_wp2
   refine hR.mono ?_
   rintro e W3 (⟨rfl,hJ3,hk3,hk4⟩ | ⟨rfl,hJx3⟩)
   ·have hs3:=(show Boxed W3 Bs 22 (.slice (some ⟨b,off,none⟩) len cap) from hk4.trans (HX.out.trans HBs.out)).cell
    gi_wp2
    go_roundw
    case rel=>
     refine ⟨(j:Int)-1,pre++[_],rfl,by omega,by omega,?_,?_,hJ3,hnx.trans hk3,hk4.trans HX.out⟩
     ·have:=H3.out;simp;omega
     ·have h3:=H3.out
      have hk:j+pre.length+1=l.length:=by rw[<-HL.out];omega
      rw[List.map_append,H4.out,List.length_append,List.length_singleton,zk6 HXx.out hk];rfl
    case measure=>simp[intOf]
   ·gi_wp2
    refine bodyPost_ret (results_none rfl _ _ _) rfl ?_
    exact ⟨⟨_,rfl⟩,.inr ⟨_,trivial,hJx3⟩⟩
  ·have hH:pre.map Item.dat=l.reverse:=by
    rw[H4.out]
    exact List.take_of_length_le (by have:=H3.out;rw[List.length_reverse,<-HL.out];omega)
   have HH:=zh hH
   clear hH
   gi_wp2
   go_end0
   exact ⟨⟨_,rfl⟩,.inl ⟨pre,HH.out,hJs⟩⟩
def ListIH (S:Nat->Prop) (H:Nat) (w:World) {w0:World} {B:Nat} (pre:List (Item w0 B)) (W:World):Prop:=
 ((∃(k n d:Int) (s:ByteArray) (o:Option Addr) (len cap:Nat),Box5 W (H+1) 26 (.int .i64 k) (.int .i64 n) (.int .i64 d) (.string s) (.slice o len cap)∧RepD (hide W (SB S H)) W.heap.size (listUp pre) (.agg #[.int .i64 k,.int .i64 n,.int .i64 d,.string s,.slice o len cap]))∧Box5 W H 26 (.int .i64 0) (.int .i64 0) (.int .i64 0) (.string ⟨#[]⟩) (.slice none 0 0))∧Below H w W∧H+3<=W.heap.size
theorem zeI (S:Nat->Prop) (H:Nat) (w:World) (w0:World) (B n0:Nat) (hw:H<=w.heap.size) (hn:H<=n0):OwnFrom n0 (fun (pre:List (Item w0 B)) W=>ListIH S H w pre W):=by
 refine OwnFrom.and (OwnFrom.and (Own.from ?_ _) (Own.from (zcM _ _ _ _ _ _ _) _)) (OwnFrom.and (ownFrom_below hw hn) (Own.from (fun _ _ _ _ hs hg _=>Nat.le_trans hs hg.size) _))
 rintro s X Y row ⟨k,n,d,st,o,len,cap,hb,ji⟩ hg hr
 have hb':=zcM (H+1) 26 (fun _:Unit=>.int .i64 k) (fun _=>.int .i64 n) (fun _=>.int .i64 d) (fun _=>.string st) (fun _=>.slice o len cap) () X Y row hb hg hr
 exact ⟨k,n,d,st,o,len,cap,hb',ji.shown (fun c o u h1 hc=>⟨h1,zfE hg hr c o u hc⟩) hg.size⟩
theorem zku (F:Fence) (n:Nat) (hF0:F.fn 87) (hF1:F.fn 111) (hF2:F.fn 151) (hro:F.round=none) (hn:6<=n)
  (S:Nat->Prop) (l:List Dat) (sl:Value) (w:World) (hSb:∀b,S b->b<w.heap.size) (hv:RepS (hide w S) w.heap.size l sl) :
  CallsIn F n prog 87 #[sl] w (DatPostH S (Dat.list l) w):=by
 have h1:1<=n:=by omega
 obtain ⟨o,len,cap,rfl,hl,hcap,hmax,hv⟩:=hv
 have HL:=zh hl
 have HV:=zh hv
 clear hl hv
 refine callsIn_of_wp_marks func87 rfl hF0 ?_ hro
 simp only[ntmps87,List.size_toArray,qzN,qzO,Nat.reduceAdd,Nat.reduceSub,Array.replicate_succ,Array.replicate_zero,List.push_toArray,List.append_toArray,List.nil_append,List.cons_append]
 gi_wp2_with (gi_at_call 111;refine (zj9 F (n-1) hF1 hro _ _ _ _).mono ?_;rintro e w' ⟨rfl,rfl⟩)
 obtain ⟨W0,hW0⟩:∃W0,((w.alloc (.cells #[.int .i64 0,.int .i64 0,.int .i64 0,.string ⟨#[]⟩,.slice none 0 0] 26)).alloc (.cells #[.int .i64 4,.int .i64 0,.int .i64 0,.string ⟨#[]⟩,.slice none 0 0] 26)).alloc (.cells #[.slice o len cap] 22)=W0:=⟨_,rfl⟩
 have hB0:Below w.heap.size w W0:=by rw[<-hW0];exact (((Below.refl _ w).alloc qzL _).alloc (by simp) _).alloc (by simp;omega) _
 have hsz:W0.heap.size=w.heap.size+3:=by rw[<-hW0];simp
 have bS:Boxed W0 (w.heap.size+1+1) 22 (.slice o len cap):=by
  rw[<-hW0]
  have:=Boxed.new ((w.alloc (.cells #[.int .i64 0,.int .i64 0,.int .i64 0,.string ⟨#[]⟩,.slice none 0 0] 26)).alloc (.cells #[.int .i64 4,.int .i64 0,.int .i64 0,.string ⟨#[]⟩,.slice none 0 0] 26)) 22 (.slice o len cap)
  simp only[World.size_alloc] at this
  exact this
 have b0:Box5 W0 w.heap.size 26 (.int .i64 0) (.int .i64 0) (.int .i64 0) (.string ⟨#[]⟩) (.slice none 0 0):=by
  rw[<-hW0];exact ((Box5.new w _ _ _ _ _ _).alloc _).alloc _
 have b1:Box5 W0 (w.heap.size+1) 26 (.int .i64 4) (.int .i64 0) (.int .i64 0) (.string ⟨#[]⟩) (.slice none 0 0):=by
  rw[<-hW0]
  have:=(Box5.new (w.alloc (.cells #[.int .i64 0,.int .i64 0,.int .i64 0,.string ⟨#[]⟩,.slice none 0 0] 26)) 26 (.int .i64 4) (.int .i64 0) (.int .i64 0) (.string ⟨#[]⟩) (.slice none 0 0)).alloc (.cells #[.slice o len cap] 22)
  simp only[World.size_alloc] at this
  exact this
 rw[hW0]
 clear hW0
 have hI0:ListIH S w.heap.size w ([]:List (Item (hide w S) w.heap.size)) W0:=
  ⟨⟨⟨_,_,_,_,_,_,_,b1,RepD.shut (by omega) (by omega) (by omega) (by decide) ⟨none,0,0,rfl,rfl,by omega,by omega,rfl,rfl⟩⟩,b0⟩,hB0,by omega⟩
 refine wpIn_rangeFunc_ownH (α:=Item (hide w S) w.heap.size) (encs:=fun x=>#[.int .i64 x.1.1,x.1.2.2]) (Kp:=fun W W'=>Below w.heap.size W W'∧W'.heap[w.heap.size+1+1]?=W.heap[w.heap.size+1+1]?) (S:=fun ys=>ys.map Item.dat=l.reverse) (Sp:=fun _=>True) (N:=len) (w0:=W0) hro h1 (gf:=151) (lb:=#[.pointer (some ⟨w.heap.size+1+1,0,none⟩)]) rfl hF2 (enters_of func151 (by kernel_rfl) rfl)
  ?seq (fun h k=>⟨h.1.trans k.1,k.2.trans h.2⟩) ?kb qzB (fun _=>rfl)
  (fun pre W=>ListIH S w.heap.size w pre W) (fun _ _ _=>False) (zeI S _ _ _ _ _ qzL (by omega)) (fun _ _ _ _ _ hs _ _=>hs) hI0
  (fun x a' W=>∃Bx c0 c1 c2 c3 c4,w.heap.size+2<Bx∧x.1.2.2=.agg #[c0,c1,c2,c3,c4]∧Box5 W Bx 26 c0 c1 c2 c3 c4∧a' = { tmps:=#[.slice o len cap,undef,.pointer (some ⟨w.heap.size,0,none⟩),.pointer (some ⟨w.heap.size+1,0,none⟩),undef,.pointer (some ⟨Bx,0,none⟩),.agg #[.int .i64 4,.int .i64 0,.int .i64 0,.string ⟨#[]⟩,.slice none 0 0],.slice o len cap,.func (.func 151) #[] #[.pointer (some ⟨w.heap.size+1+1,0,none⟩)],.int .i64 x.1.1,.agg #[c0,c1,c2,c3,c4],undef,undef,undef,undef,undef],defers:=[] })
  ?ax ?assign ?body ?done ?stop
 case seq=>
  rintro ll J Jx W hW _ _ hY h0
  exact zhD F (n-1) hF2 hro (by omega) ll (w.heap.size+1+1) w.heap.size w.heap.size w (hide w S) (fun _ _ _ h=>(zaa h).2) l o len cap HL.out hcap hmax HV.out qzL J Jx hY W (hB0.trans (hW.mono (by omega))) ((hW.block _ (by omega)).trans bS) h0
 case kb=>
  intro W k ob ob' hle hk hc hw
  exact ⟨belowK_b (w:=w) qzL W k ob ob' (by omega) hk hc hw,World.putObj_heap_other (by omega)⟩
 case ax=>
  rintro x a' _ X Y row ⟨Bx,c0,c1,c2,c3,c4,h1,h2,h3,h4⟩ hg hr
  exact ⟨Bx,c0,c1,c2,c3,c4,h1,h2,zcM Bx 26 (fun _:Unit=>c0) (fun _=>c1) (fun _=>c2) (fun _=>c3) (fun _=>c4) () X Y row h3 hg (fun r e=>(hr r e).2),h4⟩
 case assign=>
  rintro ll pre ⟨⟨i,x,v⟩,hx⟩ W K hI hK
  obtain ⟨k,n',d,s,o',len',cap',rfl⟩:=zae hx
  gi_wp2
  have hS:=hI.2.2
  exact hK _ _ ((KeepsOthers.alloc _ _).from _) ⟨(Below.refl _ W).alloc hI.2.1.size _,Below.heap_alloc _ _ _ (by omega)⟩ ((zeI S w.heap.size w (hide w S) w.heap.size W0.heap.size qzL (by omega)).alloc _ hI) ⟨W.heap.size,_,_,_,_,_,by omega,rfl,Box5.new W _ _ _ _ _ _,rfl⟩
 case body=>
  rintro ll pre ⟨⟨i,x,v⟩,hx⟩ a' W hl ⟨r,hr⟩ hI ⟨Bx,c0,c1,c2,c3,c4,hBx,rfl,bX,rfl⟩ hlt
  obtain ⟨⟨⟨ok,on,od,os,oo,ol,oc,b1,ji⟩,b0⟩,hB,hS⟩:=hI
  obtain ⟨x0,x1,x2,x3,x4⟩:=bX.cells
  obtain ⟨q0,q1,q2,q3,q4⟩:=b1.cells
  obtain ⟨z0,z1,z2,z3,z4⟩:=b1.free
  have g1:=bX.lt
  have g2:=b1.lt
  gi_wp2
  refine ⟨((ziv _ _ _ _ _ _ _).trans (KeepsOthers.alloc _ _)).from _,⟨(zag _ _ _ _ _ _ _ _ (by omega)).alloc (by rw[zan];omega) _,?_⟩,⟨⟨⟨_,_,_,_,_,_,_,(b1.set _ _ _ _ _).alloc _,?_⟩,?_⟩,?_,?_⟩⟩
  ·rw[Below.heap_alloc _ _ _ (by rw[zan];omega),zam _ _ _ _ _ _ _ (by omega)]
  ·rw[zgQ]
   exact zc5 (.inr (by omega)) (fun b hb=>hb.elim (fun h=>by have:=hSb b h;omega) (fun h=>by omega)) (RepD.shown hx (zf7 rfl hB) (by omega)) ji _
  ·exact (show Box5 (set5 W (w.heap.size+1) _ _ _ _ _) w.heap.size _ _ _ _ _ _ from (zam _ _ _ _ _ _ _ (by omega)).trans b0).alloc _
  ·exact (hB.trans (zag _ _ _ _ _ _ _ _ (by omega))).alloc (by rw[zan];omega) _
  ·simp;omega
 case done=>
  rintro D ys W hD hys ⟨⟨⟨ok,on,od,os,oo,ol,oc,b1,ji⟩,b0⟩,hB,hS⟩ hK
  obtain ⟨q0,q1,q2,q3,q4⟩:=b1.cells
  obtain ⟨p0,p1,p2,p3,p4⟩:=b0.cells
  obtain ⟨z0,z1,z2,z3,z4⟩:=b0.free
  gi_wp2
  have hD0:D≠w.heap.size:=by omega
  have bN:=b0.set (.int .i64 ok) (.int .i64 on) (.int .i64 od) (.string os) (.slice oo ol oc)
  have hK':=(zam W w.heap.size (.int .i64 ok) (.int .i64 on) (.int .i64 od) (.string os) (.slice oo ol oc) hD0).trans hK
  refine ⟨by simp,.inl ⟨_,_,rfl,run_takeDeferred hK',?_⟩⟩
  have bP:=(show Box5 ((set5 W w.heap.size (.int .i64 ok) (.int .i64 on) (.int .i64 od) (.string os) (.slice oo ol oc)).putObj D (.deferred none)) w.heap.size _ _ _ _ _ _ from (World.putObj_heap_other (Ne.symm hD0)).trans bN)
  obtain ⟨r0,r1,r2,r3,r4⟩:=bP.cells
  refine ⟨.agg #[.int .i64 ok,.int .i64 on,.int .i64 od,.string os,.slice oo ol oc],by simp[results,Tryz.f87,go_sem,r0,r1,r2,r3,r4],_,rfl,?_,?_⟩
  ·rw[<-zii hys]
   refine ji.shown (zjM ?_) (by simp)
   intro c o u hc0 h
   have hc:¬(w.heap.size<=c∧c<w.heap.size+2):=fun h=>hc0 (.inr h)
   have h2:c≠D:=by
    rintro rfl
    unfold World.cell? at h
    rw[hK] at h
    cases h
   have h3:(set5 W w.heap.size (.int .i64 ok) (.int .i64 on) (.int .i64 od) (.string os) (.slice oo ol oc)).cell? ⟨c,o,none⟩=some u:=by rw[zco _ _ _ _ _ _ _ (by omega)];exact h
   unfold World.cell? at h3 ⊢
   rw[show ((set5 W w.heap.size (.int .i64 ok) (.int .i64 on) (.int .i64 od) (.string os) (.slice oo ol oc)).putObj D (.deferred none)).heap[c]?=_ from World.putObj_heap_other h2]
   exact h3
  ·exact (hB.trans (zag W w.heap.size w.heap.size _ _ _ _ _ qzL)).trans (belowK_b (w:=w) qzL _ D _ _ (by omega) hK' rfl rfl)
 case stop=>
  rintro D c pre W _ _ h _
  exact h.elim
theorem zaW (S:Nat->Prop) (l:List Dat) (sl:Value) (B:Nat) (w:World) (hSb:∀b,S b->b<w.heap.size) (hv:RepS (hide w S) B l sl) (hB:B<=w.heap.size) :
  Calls prog 87 #[sl] w (DatPostH S (Dat.list l) w):=
 (callsIn_wide (n:=6)).1 (zku Fence.wide 6 trivial trivial trivial rfl qzL S l sl w hSb (hv.wider hB))
def RListIH (S:Nat->Prop) (w:World) (l:List Dat) (j:Nat) (W:World):Prop:=
 ((∃(k n d:Int) (s:ByteArray) (o:Option Addr) (len cap:Nat),Box5 W (w.heap.size+1) 26 (.int .i64 k) (.int .i64 n) (.int .i64 d) (.string s) (.slice o len cap)∧RepD (hide W (SB S w.heap.size)) W.heap.size (Dat.list (l.drop j)) (.agg #[.int .i64 k,.int .i64 n,.int .i64 d,.string s,.slice o len cap]))∧Box5 W w.heap.size 26 (.int .i64 0) (.int .i64 0) (.int .i64 0) (.string ⟨#[]⟩) (.slice none 0 0))∧Below w.heap.size w W∧w.heap.size+2<=W.heap.size
theorem RListIH.drew {S:Nat->Prop} {w W:World} {l:List Dat} {j:Nat} (h:RListIH S w l j W):RListIH S w l j W.drew:=by
 obtain ⟨⟨⟨k,n,d,s,o,len,cap,b1,ji⟩,b0⟩,hb,hS⟩:=h
 exact ⟨⟨⟨k,n,d,s,o,len,cap,b1,RepD.shown ji (fun _ _ _ h1 h=>⟨h1,h⟩) qzL⟩,b0⟩,hb.drew,hS⟩
theorem ziB (S:Nat->Prop) (l:List Dat) (sl:Value) (B:Nat) (w:World) (hSb:∀b,S b->b<w.heap.size) (hv:RepS (hide w S) B l sl) (hB:B<=w.heap.size) :
  Calls prog 67 #[sl] w (DatPostH S (Dat.list l) w):=by
 obtain ⟨o,len,cap,rfl,hl,hcap,hmax,hc⟩:=hv
 have HL:=zh hl
 have HC:=zh hc
 clear hl hc
 go_enter func67,ntmps67
 go_wp2_with fail
 go_loopg [4] (len+1) (fun g i wr=>∃j:Nat,g=j+1∧j<=len∧i=.int .i64 ((j:Int)-1)∧RListIH S w l j wr)
 case atStart=>
  refine ⟨len,rfl,qzL,rfl,⟨⟨4,0,0,⟨#[]⟩,none,0,0,?_,?_⟩,?_⟩,?_,?_⟩
  ·have:=Box5.new (w.alloc (.cells #[.int .i64 0,.int .i64 0,.int .i64 0,.string ⟨#[]⟩,.slice none 0 0] 26)) 26 (.int .i64 4) (.int .i64 0) (.int .i64 0) (.string ⟨#[]⟩) (.slice none 0 0)
   rwa[World.size_alloc] at this
  ·rw[List.drop_of_length_le (by rw[<-HL.out];exact qzL)]
   exact RepD.shut (by omega) (by omega) (by omega) (by decide) ⟨none,0,0,rfl,rfl,by omega,by omega,rfl,rfl⟩
  ·exact (Box5.new w _ _ _ _ _ _).alloc _
  ·exact (qzB.alloc qzL _).alloc (by simp) _
  ·simp
 case round=>
  obtain ⟨j,rfl,hj,rfl,⟨⟨ok,on,od,os,oo,ol,oc,b1,ji⟩,b0⟩,hb,hS⟩:=hrel
  obtain ⟨q0,q1,q2,q3,q4⟩:=b1.cells
  obtain ⟨z0,z1,z2,z3,z4⟩:=b1.free
  have g2:=b1.lt
  have HB:=zh hb
  have HREP:=zh ji
  have B1:=zh b1
  have B0:=zh b0
  clear hb ji b1
  by_cases hjl:0<j
  ·obtain ⟨i,rfl⟩:∃i,j=i+1:=⟨j-1,by omega⟩
   obtain ⟨x,hx⟩:∃x,l[i]?=some x:=⟨_,List.getElem?_eq_getElem (by rw[<-HL.out];omega)⟩
   obtain ⟨b,off,k',n',d',s',l',o',len',cap',ho,hxe,e0,e1,e2,e3,e4,er⟩:=zat HC.out (Below.refl B (hide w S)) hx
   have hU:∀b o u,(hide w S).cell? ⟨b,o,none⟩=some u->wr.cell? ⟨b,o,none⟩=some u:=fun b o u h=>(HB.out.cell (p:=⟨b,o,none⟩) (zai (zaa h).2)).trans (zaa h).2
   replace e0:=hU _ _ _ e0
   replace e1:=hU _ _ _ e1
   replace e2:=hU _ _ _ e2
   replace e3:=hU _ _ _ e3
   replace e4:=hU _ _ _ e4
   subst ho hxe
   have ER:=zh er
   have HX:=zh hx
   clear hx er b0 hU
   go_wp2_with fail
   go_region
   all_goals go_wp2_with fail
   all_goals go_roundg (i+1)
   case measure=>omega
   case rel=>
    refine ⟨i,rfl,by omega,rfl,RListIH.drew ⟨⟨⟨_,_,_,_,_,_,_,(B1.out.set _ _ _ _ _).alloc _,?_⟩,?_⟩,?_,?_⟩⟩
    ·rw[zfs HX.out]
     exact zc5 (.inr (by omega)) (fun b hb=>hb.elim (fun h=>by have:=hSb b h;omega) (fun h=>by omega)) (RepD.shown ER.out (zf7 rfl HB.out) (by omega)) HREP.out _
    ·exact (show Box5 (set5 wr (w.heap.size+1) _ _ _ _ _) w.heap.size _ _ _ _ _ _ from (zam _ _ _ _ _ _ _ (by omega)).trans B0.out).alloc _
    ·exact (HB.out.trans (zag _ _ _ _ _ _ _ _ (by omega))).alloc (by rw[zan];omega) _
    ·simp;omega
  ·obtain rfl:j=0:=by omega
   obtain ⟨y0,y1,y2,y3,y4⟩:=b0.free
   obtain ⟨p0,p1,p2,p3,p4⟩:=b0.cells
   go_wp2_with fail
   have bN:=b0.set (.int .i64 ok) (.int .i64 on) (.int .i64 od) (.string os) (.slice oo ol oc)
   obtain ⟨r0,r1,r2,r3,r4⟩:=bN.cells
   refine bodyPost_ret (v:=.agg #[.int .i64 ok,.int .i64 on,.int .i64 od,.string os,.slice oo ol oc]) (by simp[results,results67,go_sem,r0,r1,r2,r3,r4]) rfl ⟨_,rfl,?_,?_⟩
   ·exact HREP.out.shown (zjM fun c o u hc h=>by
     show (set5 wr w.heap.size _ _ _ _ _).cell? ⟨c,o,none⟩=_
     rw[zco _ _ _ _ _ _ _ (fun e=>hc (.inr (by omega)))];exact h) (by simp)
   ·exact HB.out.trans (zag wr w.heap.size w.heap.size _ _ _ _ _ qzL)
end
section
open Go Go.RowKit
def Lo (K b:Nat):Prop:=b<K
def LoR (K:Nat) (v:Value) (b:Nat):Prop:=b<K∨v.ownBlock=some b
def GrownH (W:World) (K base:Nat) (l:List Dat) (v:Value):Prop:=K<=base∧∃xs,W.ownsRow base 26 5 v l.length xs∧CellsD (hide W (LoR K v)) W.heap.size l xs
theorem GrownH.nil (W:World) {K base:Nat} (h:K<=base):GrownH W K base [] (.slice none 0 0):=⟨h,[],World.ownsRow_nil _ _ _ _,rfl⟩
theorem GrownH.block {W:World} {K base:Nat} {l:List Dat} {v:Value} (h:GrownH W K base l v) {g:Nat} (hg:v.ownBlock=some g):base<=g∧g<W.heap.size:=by
 obtain ⟨_,xs,h1,_⟩:=h
 exact h1.lt g hg
theorem GrownH.low {W:World} {K base:Nat} {l:List Dat} {v:Value} (h:GrownH W K base l v):∀g,v.ownBlock=some g->¬Lo K g:=fun g hg hl=>by
 have:=(h.block hg).1
 have:=h.1
 unfold Lo at hl
 omega
theorem GrownH.turned {T:Nat->Prop} {W W':World} {K base:Nat} {l:List Dat} {v:Value} (h:GrownH W K base l v) (ht:Turned T W W') (hT:∀b,b<W.heap.size->T b->Lo K b):GrownH W' K base l v:=by
 obtain ⟨h0,xs,h1,h2⟩:=h
 have hlow:=GrownH.low ⟨h0,xs,h1,h2⟩
 refine ⟨h0,xs,?_,h2.shown (Shown.turned ht fun b hb hs=>.inl (hT b hb hs)) ht.size⟩
 refine ⟨h1.1,?_⟩
 rcases h1.2 with h' | ⟨g,cap,cur,rfl,k2,k3,k4⟩
 ·exact .inl h'
 ·refine .inr ⟨g,cap,cur,rfl,k2,?_,k4⟩
  have hlt:=(h1.lt g rfl).2
  exact (ht.block g hlt fun hs=>hlow g rfl (hT g hlt hs)).trans k3
theorem GrownH.below {W W':World} {K base:Nat} {l:List Dat} {v:Value} (h:GrownH W K base l v) (hb:Below W.heap.size W W'):GrownH W' K base l v:=
 h.turned (T:=fun _=>False) (Turned.of_below hb) fun _ _ h=>h.elim
theorem GrownH.five {W:World} {K base B:Nat} {l:List Dat} {v:Value} (h:GrownH W K base l v) (hB:B<K) (d0 d1 d2 d3 d4:Value):GrownH (set5 W B d0 d1 d2 d3 d4) K base l v:=
 h.turned (T:=fun b=>b=B) ⟨(zag W B B d0 d1 d2 d3 d4 qzL).os,(zag W B B d0 d1 d2 d3 d4 qzL).tape,(zag W B B d0 d1 d2 d3 d4 qzL).output,by rw[zan];exact qzL,fun b _ hn=>zam _ _ _ _ _ _ _ hn⟩ fun b _ hb=>by subst hb;exact hB
theorem GrownH.rep {W:World} {K base:Nat} {l:List Dat} {v:Value} (h:GrownH W K base l v):RepS (hide W (Lo K)) W.heap.size l v:=by
 obtain ⟨h0,xs,h1,h2⟩:=h
 have hlow:=GrownH.low ⟨h0,xs,h1,h2⟩
 have:=zbS (w:=hide W (Lo K)) (B:=W.heap.size) (zdF h1 hlow) (h2.shown (Shown.less W fun b _ hb=>.inl hb) qzL) (by rw[za7];exact qzL)
 rwa[za7] at this
theorem GrownH.form {W:World} {K base:Nat} {l:List Dat} {v:Value} (h:GrownH W K base l v):∃o len cap,v=.slice o len cap∧len=l.length:=by
 obtain ⟨_,xs,h1,_⟩:=h
 rcases h1.2 with ⟨hv,h0⟩ | ⟨g,cap,cur,hv,_⟩
 ·exact ⟨_,_,_,hv,h0.symm⟩
 ·exact ⟨_,_,_,hv,rfl⟩
theorem zh7 {c0 c1 c2 c3 c4:Value} {w:World} {B:Nat} {x:Dat} (h:RepD w B x (.agg #[c0,c1,c2,c3,c4])):∀u∈[c0,c1,c2,c3,c4],u.oneCell'=true:=by
 obtain ⟨k,n,d,s,l⟩:=x
 obtain ⟨sl,he,_,_,_,_,o,len,cap,rfl,_⟩:=h.open
 simp only[Value.agg.injEq,Array.mk.injEq,List.cons.injEq,and_true] at he
 obtain ⟨rfl,rfl,rfl,rfl,rfl⟩:=he
 intro u hu
 simp only[List.mem_cons,List.not_mem_nil,or_false] at hu
 rcases hu with rfl | rfl | rfl | rfl | rfl<;>rfl
theorem zbU {W:World} {ops:Array Oper} {rest:List Oper} {o:Oper} {a:Act} {Q:Exit->Act->World->Prop} (hgd:o.guard=none) (s x:Operand)
  (ho:o.op=.call { callee:=.builtin .append,args:=#[s,x],argTypes:=#[22,22] }) (K base E:Nat) (v:Value) (l:List Dat) (y:Dat) (c0 c1 c2 c3 c4:Value) (hs:a.eval s=v) (hg:GrownH W K base l v)
  (hy:RepD (hide W (Lo E)) W.heap.size y (.agg #[c0,c1,c2,c3,c4])) (hE:K<=E) (hEr:∀g,v.ownBlock=some g->g<E) (hm:l.length<=1000000) (hb:base<=W.heap.size) (hx:a.eval x=.slice (some ⟨W.heap.size,0,none⟩) 1 1)
  (h:∀g cap w',GrownH w' K base (l++[y]) (.slice (some ⟨g,0,none⟩) (l.length+1) cap)->Turned (fun b=>v.ownBlock=some b) W w'->wpList prog ops Q rest (a.put o.dst (.slice (some ⟨g,0,none⟩) (l.length+1) cap)) w') :
  wpList prog ops Q (o::rest) a (W.alloc (.cells #[c0,c1,c2,c3,c4] 26)):=by
 obtain ⟨h0,xs,h1,h2⟩:=hg
 obtain ⟨i0,hi,hz0,hz1,hz2⟩:=info_parts zcm
 refine wpList_append_lies (w:=W.alloc (.cells #[c0,c1,c2,c3,c4] 26)) hgd s x 22 ho base 26 i0 (.agg #[.int .i64 0,.int .i64 0,.int .i64 0,.string ⟨#[]⟩,.slice none 0 0]) 5 64 underlying22 hi hz0 hz1 hz2 rfl (by decide) v l.length xs hs (h1.alloc _) ⟨W.heap.size,0,none⟩ 1 1 [c0,c1,c2,c3,c4] hx rfl (zkz W _ _ _ _ _ _) (zh7 hy) (by decide) (by unfold maxLen;omega) (by omega) (by simp;omega) (W.heap.size+1) (by simp) ?_
 intro g cap w' k1 k2 k3 k4
 have je:Below W.heap.size W (W.alloc (.cells #[c0,c1,c2,c3,c4] 26)):=Below.one _ _
 have ht:Turned (fun b=>v.ownBlock=some b) W w':=(Turned.of_below je).next (Turned.grown k2 fun b hb=>hb)
 refine h g cap w' ⟨h0,xs++[c0,c1,c2,c3,c4],by simpa using k1,?_⟩ ht
 have hnew:∀b,LoR K (.slice (some ⟨g,0,none⟩) (l.length+1) cap) b->b<W.heap.size->LoR K v b:=by
  intro b hb hlt
  rcases hb with hb | hb
  ·exact .inl hb
  ·simp only[Value.ownBlock,Option.some.injEq] at hb
   subst hb
   rcases k3 with k3 | k3
   ·exact .inr k3
   ·omega
 have sh:Shown W (LoR K v) w' (LoR K (.slice (some ⟨g,0,none⟩) (l.length+1) cap)):=by
  intro c o' u hc hu
  have hlt:=zai hu
  obtain ⟨_,h5⟩:=Shown.turned (S:=LoR K v) ht (fun b _ hb=>.inr hb) c o' u hc hu
  exact ⟨fun hs=>hc (hnew c hs hlt),h5⟩
 refine CellsD.snoc ?_ (h2.shown sh ht.size)
 refine hy.shown ?_ ht.size
 intro c o' u hc hu
 have hlt:=zai hu
 have hc2:¬LoR K v c:=fun hh=>hh.elim (fun hh=>hc (qzM hh hE)) fun hh=>hc (hEr c hh)
 exact sh c o' u hc2 hu
end
section
open Go Go.RowKit
namespace Sy
def kws:List (List UInt8):=[[113,117,111,116,101],[105,102],[108,97,109,98,100,97],[115,101,116,33],[98,101,103,105,110],[108,101,116,114,101,99],[108,101,116,114,101,99,42],[100,101,102,105,110,101],[108,101,116],[108,101,116,42],[99,111,110,100],[99,97,115,101],[97,110,100],[111,114],[119,104,101,110],[117,110,108,101,115,115],[100,111],[101,108,115,101],[61,62]]
def keyword (s:ByteArray):Bool:=kws.contains s.data.toList
end Sy
theorem zhd (s:ByteArray) (w:World):Calls prog 20 #[.string s] w fun e w'=>e=.returned (.bool (Sy.keyword s))∧w'=w:=by
 obtain ⟨T,hT⟩:∃T,s.data.toList=T:=⟨_,rfl⟩
 have hs:s=⟨T.toArray⟩:=by rw[<-hT]
 have HK:=zh (show Sy.keyword s=Sy.kws.contains T from by unfold Sy.keyword;rw[hT])
 clear hT
 subst hs
 go_enter func20,ntmps20
 go_wp2_with fail
 all_goals first
  | (exfalso;simp_all;done)
  | (go_ret;refine ⟨congrArg (fun b=>Ending.returned (.bool b)) ?_,rfl⟩;rw[HK.out];simp only[Sy.kws,List.contains_cons,List.contains_nil, *,Bool.or_true,Bool.true_or,Bool.or_false];done)
  | fail
theorem zap (s:ByteArray) (r:Bool) (hr:Sy.keyword s=r) (w:World):Calls prog 20 #[.string s] w fun e w'=>e=.returned (.bool r)∧w'=w:=by
 rw[<-hr];exact zhd s w
theorem zjb (k n d:Int) (st s:ByteArray) (o:Option Addr) (len cap:Nat) (w:World) (r:Bool) (hr:(k==2&&st.data.toList==s.data.toList)=r):Calls prog 74 #[.agg #[.int .i64 k,.int .i64 n,.int .i64 d,.string st,.slice o len cap],.string s] w fun e w'=>e=.returned (.bool r)∧Below w.heap.size w w':=by
 obtain ⟨W0,hW0⟩:∃W0,w.alloc (.cells #[.int .i64 k,.int .i64 n,.int .i64 d,.string st,.slice o len cap] 26)=W0:=⟨_,rfl⟩
 have hb:Box5 W0 w.heap.size 26 (.int .i64 k) (.int .i64 n) (.int .i64 d) (.string st) (.slice o len cap):=by rw[<-hW0];exact Box5.new w _ _ _ _ _ _
 have HB:=zh (show Below w.heap.size w W0 from by rw[<-hW0];exact Below.one _ _)
 obtain ⟨p0,p1,p2,p3,p4⟩:=hb.cells
 have pl:=hb.lt
 have HR:=zh hr
 clear hb hr
 obtain ⟨T,hT⟩:∃T,st.data.toList=T:=⟨_,rfl⟩
 obtain ⟨U,hU⟩:∃U,s.data.toList=U:=⟨_,rfl⟩
 rw[hT,hU] at HR
 obtain rfl:st=⟨T.toArray⟩:=by rw[<-hT]
 obtain rfl:s=⟨U.toArray⟩:=by rw[<-hU]
 clear hT hU
 cases h1:(k==2)
 ·rw[h1] at HR
  go_enter func74,ntmps74
  go_wp2_with fail
  go_ret
  exact ⟨by rw[<-HR.out];rfl,HB.out⟩
 ·rw[h1] at HR
  cases h2:(T==U)
  all_goals
   rw[h2] at HR
   go_enter func74,ntmps74
   go_wp2_with fail
   go_ret
   exact ⟨by rw[<-HR.out];rfl,HB.out⟩
theorem zbI (k n d:Int) (st:ByteArray) (o:Option Addr) (len cap:Nat) (w:World) (r:Bool) (hr:(k==2 && !Sy.keyword st)=r):Calls prog 72 #[.agg #[.int .i64 k,.int .i64 n,.int .i64 d,.string st,.slice o len cap]] w fun e w'=>e=.returned (.bool r)∧Below w.heap.size w w':=by
 obtain ⟨W0,hW0⟩:∃W0,w.alloc (.cells #[.int .i64 k,.int .i64 n,.int .i64 d,.string st,.slice o len cap] 26)=W0:=⟨_,rfl⟩
 have hb:Box5 W0 w.heap.size 26 (.int .i64 k) (.int .i64 n) (.int .i64 d) (.string st) (.slice o len cap):=by rw[<-hW0];exact Box5.new w _ _ _ _ _ _
 have HB:=zh (show Below w.heap.size w W0 from by rw[<-hW0];exact Below.one _ _)
 obtain ⟨p0,p1,p2,p3,p4⟩:=hb.cells
 have pl:=hb.lt
 have HR:=zh hr
 clear hb hr
 cases h1:(k==2)
 ·rw[h1] at HR
  go_enter func72,ntmps72
  go_wp2_with fail
  go_ret
  exact ⟨by rw[<-HR.out];rfl,HB.out⟩
 ·rw[h1] at HR
  cases h2:Sy.keyword st
  all_goals
   have HK:=zh (fun W=>zap st _ h2 W)
   rw[h2] at HR
   clear h2
   go_enter func72,ntmps72
   go_wp2_with (first | (go_at_call 20;refine (HK.out _).mono ?_;rintro e' w2 ⟨rfl,rfl⟩))
   go_ret
   exact ⟨by rw[<-HR.out];rfl,HB.out⟩
end
section
open Go Go.RowKit
theorem zcP {w:World} {B b:Nat}:∀(l:List Dat) (off:Nat),RepC w B l b off->∃xs,CellsD w B l xs∧∀j u,xs[j]?=some u->w.cell? ⟨b,off+j,none⟩=some u
 | [],_,_=>⟨[],rfl,fun j u h=>by simp at h⟩
 | x::l,off,h=>by
  rw[RepC] at h
  obtain ⟨⟨c0,c1,c2,c3,c4,h0,h1,h2,h3,h4,h5⟩,h6⟩:=h
  obtain ⟨xs,k1,k2⟩:=zcP l (off+5) h6
  refine ⟨c0::c1::c2::c3::c4::xs,⟨c0,c1,c2,c3,c4,xs,rfl,h5,k1⟩,fun j u hj=>?_⟩
  match j,hj with
  | 0,hj=>simp at hj;rw[<-hj];exact h0
  | 1,hj=>simp at hj;rw[<-hj];exact h1
  | 2,hj=>simp at hj;rw[<-hj];exact h2
  | 3,hj=>simp at hj;rw[<-hj];exact h3
  | 4,hj=>simp at hj;rw[<-hj];exact h4
  | j+5,hj=>
   simp only[List.getElem?_cons_succ] at hj
   rw[show off+(j+5)=off+5+j from by omega]
   exact k2 j u hj
theorem zby {w:World} {B:Nat}:∀{l k:List Dat} {xs ys:List Value},CellsD w B l xs->CellsD w B k ys->CellsD w B (l++k) (xs++ys)
 | [],_,xs,_,h,h'=>by
  obtain rfl:xs=[]:=h
  exact h'
 | x::l,_,xs,_,h,h'=>by
  obtain ⟨c0,c1,c2,c3,c4,xs',rfl,hx,h2⟩:=h
  exact ⟨c0,c1,c2,c3,c4,_,rfl,hx,zby h2 h'⟩
theorem zaj {P:Program} {ops:Array Oper} {rest:List Oper} {o:Oper} {a:Act} {w:World} {Q:Exit->Act->World->Prop} (hw:Region.wanted o (yielded ops a.tmps)=true)
  (h:∀K:Act->World->Prop,(∀a w,wpList P ops Q rest a w->K a w)->o.wp P a w K Q):wpList P ops Q (o::rest) a w:=
 wpList_step fun K hK=>by rw[if_pos hw];exact h K hK
end
section
open Go Go.RowKit
namespace Num
theorem zky (n d:Int):(mk n d).1.natAbs<=2147483647∧(mk n d).2.1.natAbs<=2147483647:=by
 unfold mk
 split
 ·decide
 split
 ·decide
 ·rename_i h
  split
  ·simp only[Int.natAbs_natCast];omega
  ·simp only[Int.natAbs_neg,Int.natAbs_natCast];omega
theorem zdb (neg:Bool) (l:List UInt8):(parseU neg l).1.natAbs<=2147483647∧(parseU neg l).2.1.natAbs<=2147483647:=by
 unfold parseU
 split
 ·exact zky _ _
 ·decide
theorem parse_small (l:List UInt8):(parse l).1.natAbs<=2147483647∧(parse l).2.1.natAbs<=2147483647:=by
 unfold parse
 split
 ·exact zdb _ _
 ·exact zdb _ _
end Num
theorem zbc {S:Nat->Prop} {A B C:World} (h:Turned S A B) (hb:Below A.heap.size B C):Turned S A C:=
 ⟨hb.os.trans h.os,hb.tape.trans h.tape,hb.output.trans h.output,Nat.le_trans h.size hb.size,fun b hlt hn=>(hb.block b hlt).trans (h.block b hlt hn)⟩
theorem u8_eq (x y:UInt8):((x.toNat:Int)==(y.toNat:Int))=decide (x=y):=by
 by_cases h:x=y
 ·subst h;simp
 ·have:¬x.toNat=y.toNat:=fun e=>h (UInt8.toNat_inj.1 e)
  rw[decide_eq_false h,beq_eq_false_iff_ne]
  omega
theorem u8_ne (x y:UInt8):((x.toNat:Int) != (y.toNat:Int)) = !decide (x=y):=by rw[bne,u8_eq]
theorem zea {s:ByteArray} {a:Nat} {t q:List UInt8} (h:Rd.At s a (t++q)):s.extract a (s.size-q.length)=⟨t.toArray⟩:=by
 have h1:=h.1
 rw[List.length_append] at h1
 rw[zbl]
 congr 2
 rw[List.drop_take,h.2]
 have:s.size-q.length-a=t.length:=by omega
 rw[this,List.take_left]
end
section
open Go Go.RowKit
def RB (W:World) (b:Nat) (s:ByteArray) (a:Nat) (d:Int):Prop:=BoxL W b 53 [.string s,.int .i64 a,.int .i64 d]
theorem RB.at {W:World} {b:Nat} {s:ByteArray} {a:Nat} {d:Int} (h:RB W b s a d) (a':Nat):RB (W.setCell ⟨b,1,none⟩ (.int .i64 a')) b s a' d:=BoxL.set h 1 _
theorem RB.bad {W:World} {b:Nat} {s:ByteArray} {a:Nat} {d:Int} (h:RB W b s a d) (d':Int):RB (W.setCell ⟨b,2,none⟩ (.int .i64 d')) b s a d':=BoxL.set h 2 _
theorem RB.five' {W:World} {b B:Nat} {s:ByteArray} {a:Nat} {d:Int} (h:RB W b s a d) (hn:b≠B) (d0 d1 d2 d3 d4:Value):RB (set5 W B d0 d1 d2 d3 d4) b s a d:=(zam _ _ _ _ _ _ _ hn).trans h
theorem zdZ (W:World) (B:Nat) (d0 d1 d2 d3 d4:Value):Turned (fun c=>c=B) W (set5 W B d0 d1 d2 d3 d4):=⟨(zag W B B d0 d1 d2 d3 d4 qzL).os,(zag W B B d0 d1 d2 d3 d4 qzL).tape,(zag W B B d0 d1 d2 d3 d4 qzL).output,by rw[zan];exact qzL,fun b _ hn=>zam _ _ _ _ _ _ _ hn⟩
theorem zb7 (b:Nat) (s:ByteArray) (a:Nat) (d p:Int) (w:World) (hp:RB w b s a d) :
  Calls prog 36 #[.pointer (some ⟨b,0,none⟩),.int .i64 p] w fun e w'=>e=.returned (.agg #[.int .i64 4,.int .i64 0,.int .i64 0,.string ⟨#[]⟩,.slice none 0 0])∧RB w' b s a (if d<0 then p else d)∧Turned (fun c=>c=b) w w':=by
 have c2:=hp.cell 2 rfl
 have z2:=hp.free 2
 have hl:=hp.lt
 have HP:=zh hp
 clear hp
 by_cases hd:d<0
 ·have hdd:decide (d<0)=true:=by simpa using hd
  rw[if_pos hd]
  clear hd
  go_enter func36,ntmps36
  go_upto_region 1 with fail
  have hb5:Box5 (w.alloc (.cells #[.int .i64 0,.int .i64 0,.int .i64 0,.string ⟨#[]⟩,.slice none 0 0] 26)) w.heap.size 26 (.int .i64 0) (.int .i64 0) (.int .i64 0) (.string ⟨#[]⟩) (.slice none 0 0):=Box5.new w _ _ _ _ _ _
  have hp1:RB (w.alloc (.cells #[.int .i64 0,.int .i64 0,.int .i64 0,.string ⟨#[]⟩,.slice none 0 0] 26)) b s a d:=BoxL.alloc HP.out _
  have hT1:Turned (fun c=>c=b) w (w.alloc (.cells #[.int .i64 0,.int .i64 0,.int .i64 0,.string ⟨#[]⟩,.slice none 0 0] 26)):=Turned.of_below (Below.one _ _)
  generalize (w.alloc (.cells #[.int .i64 0,.int .i64 0,.int .i64 0,.string ⟨#[]⟩,.slice none 0 0] 26))=W1 at hb5 hp1 hT1 ⊢
  clear c2 z2
  have c2:=hp1.cell 2 rfl
  have z2:=hp1.free 2
  have l1:=hp1.lt
  obtain ⟨d0,d1,d2,d3,d4⟩:=hb5.cells
  have dl:=hb5.lt
  obtain ⟨y0,y1,y2,y3,y4⟩:=hb5.free
  have HB5:=zh hb5
  have HP1:=zh hp1
  have HT1:=zh hT1
  clear hb5 hp1 hT1
  go_wp2_with fail
  have HR5:=zh ((show Box5 (W1.setCell ⟨b,2,none⟩ (.int .i64 p)) w.heap.size 26 _ _ _ _ _ from (zay W1 ⟨b,2,none⟩ (.int .i64 p) (by simp;omega)).trans HB5.out).set (.int .i64 4) (.int .i64 0) (.int .i64 0) (.string ⟨#[]⟩) (.slice none 0 0))
  obtain ⟨r0,r1,r2,r3,r4⟩:=HR5.out.cells
  refine bodyPost_ret (v:=.agg #[.int .i64 4,.int .i64 0,.int .i64 0,.string ⟨#[]⟩,.slice none 0 0]) (by simp[results,results36,go_sem,r0,r1,r2,r3,r4]) rfl ?_
  exact ⟨rfl,(RB.bad HP1.out p).five' (by omega) _ _ _ _ _,(HT1.out.next (Turned.set _ _ _ rfl)).trans (zdZ (W1.setCell ⟨b,2,none⟩ (.int .i64 p)) w.heap.size _ _ _ _ _) fun c h1 h2=>absurd h1 (by omega)⟩
 ·have hdd:decide (d<0)=false:=by simpa using hd
  rw[if_neg hd]
  clear hd
  go_enter func36,ntmps36
  go_upto_region 1 with fail
  have hb5:Box5 (w.alloc (.cells #[.int .i64 0,.int .i64 0,.int .i64 0,.string ⟨#[]⟩,.slice none 0 0] 26)) w.heap.size 26 (.int .i64 0) (.int .i64 0) (.int .i64 0) (.string ⟨#[]⟩) (.slice none 0 0):=Box5.new w _ _ _ _ _ _
  have hp1:RB (w.alloc (.cells #[.int .i64 0,.int .i64 0,.int .i64 0,.string ⟨#[]⟩,.slice none 0 0] 26)) b s a d:=BoxL.alloc HP.out _
  have hT1:Turned (fun c=>c=b) w (w.alloc (.cells #[.int .i64 0,.int .i64 0,.int .i64 0,.string ⟨#[]⟩,.slice none 0 0] 26)):=Turned.of_below (Below.one _ _)
  generalize (w.alloc (.cells #[.int .i64 0,.int .i64 0,.int .i64 0,.string ⟨#[]⟩,.slice none 0 0] 26))=W1 at hb5 hp1 hT1 ⊢
  clear c2 z2
  have c2:=hp1.cell 2 rfl
  have z2:=hp1.free 2
  have l1:=hp1.lt
  obtain ⟨d0,d1,d2,d3,d4⟩:=hb5.cells
  have dl:=hb5.lt
  obtain ⟨y0,y1,y2,y3,y4⟩:=hb5.free
  have HB5:=zh hb5
  have HP1:=zh hp1
  have HT1:=zh hT1
  clear hb5 hp1 hT1
  go_wp2_with fail
  have HR5:=zh (HB5.out.set (.int .i64 4) (.int .i64 0) (.int .i64 0) (.string ⟨#[]⟩) (.slice none 0 0))
  obtain ⟨r0,r1,r2,r3,r4⟩:=HR5.out.cells
  refine bodyPost_ret (v:=.agg #[.int .i64 4,.int .i64 0,.int .i64 0,.string ⟨#[]⟩,.slice none 0 0]) (by simp[results,results36,go_sem,r0,r1,r2,r3,r4]) rfl ?_
  exact ⟨rfl,HP1.out.five' (by omega) _ _ _ _ _,HT1.out.trans (zdZ W1 w.heap.size _ _ _ _ _) fun c h1 h2=>absurd h1 (by omega)⟩
end
end Go.Proofs.YtnbjhmafnigefaaGreatDoor
