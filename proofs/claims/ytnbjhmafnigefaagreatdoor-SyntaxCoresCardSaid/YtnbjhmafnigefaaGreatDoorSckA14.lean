/- .. -/
import Derived.Test.YtnbjhmafnigefaaGreatDoorSckA13
open Go.Proofs.Tryz
set_option maxRecDepth 100000
set_option maxHeartbeats 16000000
namespace Go.Proofs.YtnbjhmafnigefaaGreatDoor
section
open Go Go.RowKit
def CopyI (cps:List (Nat × Nat × Nat × Nat)) (a0:Act) (listed:Array Bool) (x:Act):Prop:=∀c∈cps,(listed.getD c.1 false=true->x.tmps.getD c.2.1 undef=x.tmps.getD c.2.2.1 undef)∧(listed.getD c.1 false=false->x.tmps.getD c.2.1 undef=a0.tmps.getD c.2.1 undef)
def CloI (ops:Array Oper) (n:Nat) (listed:Array Bool):Prop:=∀i o,i<n->ops[i]?=some o->listed.getD i false=true->∀e∈o.after,Region.binds .any e=true->listed.getD e.on false=true
theorem zbB {P:Program} {id:Nat} {Q:Exit->Act->World->Prop} {a0:Act} {w:World} {l:List Oper} (n ba pa bb pb:Nat) (oba opa obb opb:Oper) (dba dpa dbb dpb:Nat) (cps:List (Nat × Nat × Nat × Nat)) (R:Nat->Value->Prop) {S:Nat->Prop} {base:Nat} {lA lB:List Dat} {uA uB:Value} {a b:Dat} {c0 c1 c2 c3 c4 e0 e1 e2 e3 e4:Value}
  (hm:P.follows .mixedOrders=true) (hB:monoB l.toArray n a0.tmps.size=true)
  (hba:l.toArray[ba]?=some oba∧oba.dst=some dba∧ba<n) (hpa:l.toArray[pa]?=some opa∧opa.dst=some dpa∧pa<n) (hbb:l.toArray[bb]?=some obb∧obb.dst=some dbb∧bb<n) (hpb:l.toArray[pb]?=some opb∧opb.dst=some dpb∧pb<n)
  (hne:[ba,pa,bb,pb].Nodup) (hdA:∃e∈opa.after,Region.binds .any e=true∧e.on=ba) (hdB:∃e∈opb.after,Region.binds .any e=true∧e.on=bb)
  (htw:Twin w.drew S base lA lB uA uB) (hxa:RepD (hide w.drew (SR (SR S uB) uA)) w.drew.heap.size a (.agg #[c0,c1,c2,c3,c4])) (hxb:RepD (hide w.drew (SR (SR S uA) uB)) w.drew.heap.size b (.agg #[e0,e1,e2,e3,e4]))
  (hcp:∀c∈cps,∃o,l.toArray[c.1]?=some o∧c.1<n∧o.dst=some c.2.1∧o.op=.assign (.tmp c.2.2.1)∧(∃op,l.toArray[c.2.2.2]?=some op∧op.dst=some c.2.2.1∧c.2.2.2<n)∧(∃e∈o.after,Region.binds .any e=true∧e.on=c.2.2.2)∧c.1≠c.2.2.2) (hcn:∀c∈cps,¬c.1∈[ba,pa,bb,pb]) (hcR:∀c∈cps,∀v,R c.1 v)
  (hops:∀i o,i<n->¬i∈[ba,pa,bb,pb]->¬i∈cps.map (·.1)->l.toArray[i]?=some o->∀(x:Act) (w1:World),x.defers=a0.defers->x.tmps.size=a0.tmps.size->Turned (fun c=>uA.ownBlock=some c∨uB.ownBlock=some c) w.drew w1->DepsC l.toArray n [ba,pa,bb,pb] R o x->Rest l.toArray n a0 x->(∀c∈cps,(∃oc,l.toArray[c.1]?=some oc∧∃e∈oc.after,Region.binds .any e=true∧e.on=i)->x.tmps.getD c.2.1 undef=a0.tmps.getD c.2.1 undef) ->
   wpList P l.toArray (fun e x' w'=>e=.normal∧w'=w1∧∃v,x'=x.put o.dst v∧R i v) [o] x w1)
  (hmA:∀(x:Act) (w1:World),x.defers=a0.defers->x.tmps.size=a0.tmps.size->DepsC l.toArray n [ba,pa,bb,pb] R oba x->Rest l.toArray n a0 x ->
   wpList P l.toArray (fun e x' w'=>e=.normal∧x'=x.put oba.dst (.slice (some ⟨w1.heap.size,0,none⟩) 1 1)∧w'=w1.alloc (.cells #[c0,c1,c2,c3,c4] 26)) [oba] x w1)
  (hmB:∀(x:Act) (w1:World),x.defers=a0.defers->x.tmps.size=a0.tmps.size->DepsC l.toArray n [ba,pa,bb,pb] R obb x->Rest l.toArray n a0 x ->
   wpList P l.toArray (fun e x' w'=>e=.normal∧x'=x.put obb.dst (.slice (some ⟨w1.heap.size,0,none⟩) 1 1)∧w'=w1.alloc (.cells #[e0,e1,e2,e3,e4] 26)) [obb] x w1)
  (hgA:∀(x:Act) (w1:World) (T:Nat->Prop),x.defers=a0.defers->x.tmps.size=a0.tmps.size->DepsC l.toArray n [ba,pa,bb,pb] R opa x->Rest l.toArray n a0 x->GrownS w1 T base lA uA->RepS (hide w1 (SR T uA)) w1.heap.size [a] (x.tmps.getD dba undef) ->
   wpList P l.toArray (fun e x' w'=>e=.normal∧∃o' len' cap',x'=x.put opa.dst (.slice o' len' cap')∧GrownS w' T base (lA++[a]) (.slice o' len' cap')∧Turned (fun c=>uA.ownBlock=some c) w1 w'∧Shown w1 (SR T uA) w' (SR T (.slice o' len' cap'))) [opa] x w1)
  (hgB:∀(x:Act) (w1:World) (T:Nat->Prop),x.defers=a0.defers->x.tmps.size=a0.tmps.size->DepsC l.toArray n [ba,pa,bb,pb] R opb x->Rest l.toArray n a0 x->GrownS w1 T base lB uB->RepS (hide w1 (SR T uB)) w1.heap.size [b] (x.tmps.getD dbb undef) ->
   wpList P l.toArray (fun e x' w'=>e=.normal∧∃o' len' cap',x'=x.put opb.dst (.slice o' len' cap')∧GrownS w' T base (lB++[b]) (.slice o' len' cap')∧Turned (fun c=>uB.ownBlock=some c) w1 w'∧Shown w1 (SR T uB) w' (SR T (.slice o' len' cap'))) [opb] x w1)
  (hend:∀(x:Act) (w1:World),x.defers=a0.defers->x.tmps.size=a0.tmps.size->Turned (fun c=>uA.ownBlock=some c∨uB.ownBlock=some c) w.drew w1->Rest l.toArray n a0 x->Twin w1 S base (lA++[a]) (lB++[b]) (x.tmps.getD dpa undef) (x.tmps.getD dpb undef) ->
   (∀i o d,i<n->¬i∈[ba,pa,bb,pb]->l.toArray[i]?=some o->o.dst=some d->R i (x.tmps.getD d undef))->(∀c∈cps,x.tmps.getD c.2.1 undef=x.tmps.getD c.2.2.1 undef)->Shown w.drew (SR (SR S uB) uA) w1 (SR (SR S (x.tmps.getD dpb undef)) (x.tmps.getD dpa undef))->wpList P l.toArray Q (l.drop n) x w1) :
  (Code.region id l.toArray true).wp P Q a0 w:=by
 have hB':=hB
 simp only[monoB,monoG,Bool.and_eq_true,decide_eq_true_eq] at hB'
 obtain ⟨⟨_,_,_,hn,hsl,_⟩,hgd⟩:=hB'
 obtain ⟨hba1,hba2,hba3⟩:=hba
 obtain ⟨hpa1,hpa2,hpa3⟩:=hpa
 obtain ⟨hbb1,hbb2,hbb3⟩:=hbb
 obtain ⟨hpb1,hpb2,hpb3⟩:=hpb
 have jn:∀{i j o oj d x v},i<n->j<n->l.toArray[i]?=some o->l.toArray[j]?=some oj->oj.dst=some d->x.tmps.size=a0.tmps.size->i≠j->(Act.put x o.dst v).tmps.getD d undef=x.tmps.getD d undef:=by
  intro i j o oj d x v hi hj ho hoj hd hsz hij
  cases hdo:o.dst with
  | none=>rfl
  | some d'=>
   obtain ⟨hd',hne'⟩:=zaV hsl hi hj ho hoj hdo hd
   rw[zaO (by rw[hsz];exact hd'),if_neg (hne'.resolve_left hij)]
 have hself:∀{i o d x v},i<n->l.toArray[i]?=some o->o.dst=some d->x.tmps.size=a0.tmps.size->(Act.put x o.dst v).tmps.getD d undef=v:=by
  intro i o d x v hi ho hd hsz
  have hd':=(zaV hsl hi hi ho ho hd hd).1
  rw[hd,zaO (by rw[hsz];exact hd'),if_pos rfl]
 simp only[List.nodup_cons,List.mem_cons,List.not_mem_nil,or_false,not_or,List.nodup_nil,and_true,not_false_eq_true] at hne
 obtain ⟨⟨n1,n2,n3⟩,⟨n4,n5⟩,n6⟩:=hne
 refine zbO n (fun listed x W=>Turned (fun c=>uA.ownBlock=some c∨uB.ownBlock=some c) w.drew W∧TwinI S base lA lB uA uB a b (.agg #[c0,c1,c2,c3,c4]) (.agg #[e0,e1,e2,e3,e4]) (listed.getD ba false) (listed.getD pa false) (listed.getD bb false) (listed.getD pb false) (x.tmps.getD dba undef) (x.tmps.getD dpa undef) (x.tmps.getD dbb undef) (x.tmps.getD dpb undef) W ∧
  (∀i o d,i<n->¬i∈[ba,pa,bb,pb]->l.toArray[i]?=some o->listed.getD i false=true->o.dst=some d->R i (x.tmps.getD d undef))∧CopyI cps a0 listed x∧CloI l.toArray n listed∧Shown w.drew (SR (SR S uB) uA) W (SR (SR S (if listed.getD pb false=true then x.tmps.getD dpb undef else uB)) (if listed.getD pa false=true then x.tmps.getD dpa undef else uA))) hm hB ?_ ?_ ?_
 ·refine ⟨Turned.refl _ _,?_,fun i o d _ _ _ h=>(by rw[getD_replicate_false] at h;cases h),fun c _=>⟨fun h=>(by rw[getD_replicate_false] at h;cases h),fun _=>rfl⟩,fun i o _ _ h=>(by rw[getD_replicate_false] at h;cases h),by rw[getD_replicate_false,getD_replicate_false];exact Shown.less _ fun _ _ h=>h⟩
  simp only[getD_replicate_false]
  exact ⟨htw,fun _=>⟨hxa,fun h=>Bool.noConfusion h⟩,fun _=>⟨hxb,fun h=>Bool.noConfusion h⟩⟩
 ·intro i o hi ho listed x w1 hls hdf hsz ja ⟨hT,hI,hR,hC,hCl,hSh⟩ hun hdeps
  have hdC:DepsC l.toArray n [ba,pa,bb,pb] R o x:=fun j oj d hj hsp hoj ⟨e,he,hb,hon⟩ hd=>hR j oj d hj hsp hoj (by have:=hdeps e he hb;rwa[hon] at this) hd
  have hlt:i<listed.size:=by rw[hls];omega
  have hset:(listed.setIfInBounds i true).getD i false=true:=by simp[hlt]
  have jm:∀{j},i≠j->(listed.setIfInBounds i true).getD j false=listed.getD j false:=fun h=>getD_set_ne false h
  have hRs:∀v,i∈[ba,pa,bb,pb]->∀j oj d,j<n->¬j∈[ba,pa,bb,pb]->l.toArray[j]?=some oj->(listed.setIfInBounds i true).getD j false=true->oj.dst=some d->R j ((Act.put x o.dst v).tmps.getD d undef):=by
   intro v hs j oj d hj hsp hoj hl hd
   have hij:i≠j:=fun e=>hsp (e ▸ hs)
   rw[jn hi hj ho hoj hd hsz hij]
   exact hR j oj d hj hsp hoj (by rwa[jm hij] at hl) hd
  have hCl':CloI l.toArray n (listed.setIfInBounds i true):=by
   intro j oj hj hoj hl e he hb
   have hold:listed.getD e.on false=true:=by
    by_cases h:i=j
    ·subst h
     obtain rfl:oj=o:=Option.some.inj (hoj.symm.trans ho)
     exact hdeps e he hb
    ·rw[jm h] at hl
     exact hCl j oj hj hoj hl e he hb
   by_cases h:i=e.on
   ·rw[<-h];exact hset
   ·rw[jm h];exact hold
  have hCp:∀v,¬i∈cps.map (·.1)->CopyI cps a0 (listed.setIfInBounds i true) (Act.put x o.dst v):=by
   intro v hni c hc
   obtain ⟨oc,c1,c2,c3,_,⟨op,c5,c6,c7⟩,⟨e,he,hb,hon⟩,_⟩:=hcp c hc
   have hne:i≠c.1:=fun e=>hni (List.mem_map.2 ⟨c,hc,e.symm⟩)
   rw[jm hne,jn hi c2 ho c1 c3 hsz hne]
   refine ⟨fun h=>?_,(hC c hc).2⟩
   have hne2:i≠c.2.2.2:=fun e2=>by
    have:=hCl c.1 oc c2 c1 h e he hb
    rw[hon,<-e2,hun] at this
    cases this
   rw[jn hi c7 ho c5 c6 hsz hne2]
   exact (hC c hc).1 h
  by_cases hq:i∈cps.map (·.1)
  ·obtain ⟨c,hc,hci⟩:=List.mem_map.1 hq
   obtain ⟨oc,c1,c2,c3,c4,⟨op,c5,c6,c7⟩,_,c9⟩:=hcp c hc
   have hnb:=hcn c hc
   subst hci
   obtain rfl:oc=o:=Option.some.inj (c1.symm.trans ho)
   simp only[List.mem_cons,List.not_mem_nil,or_false,not_or] at hnb
   obtain ⟨b1,b2,b3,b4⟩:=hnb
   refine wpList_plain (zaF hgd hi ho) fun K hK=>?_
   unfold Oper.wp
   rw[show (execOp x.eval oc).run P w1=.ok (.value (x.tmps.getD c.2.2.1 undef)) w1 from by unfold execOp;rw[c4];rfl]
   refine hK _ _ ⟨rfl,_,rfl,hT,?_,?_,?_,hCl',by rw[jm b2,jm b4,jn hi hpa3 ho hpa1 hpa2 hsz b2,jn hi hpb3 ho hpb1 hpb2 hsz b4];exact hSh⟩
   ·rw[jm b1,jm b2,jm b3,jm b4,jn hi hba3 ho hba1 hba2 hsz b1,jn hi hpa3 ho hpa1 hpa2 hsz b2,jn hi hbb3 ho hbb1 hbb2 hsz b3,jn hi hpb3 ho hpb1 hpb2 hsz b4]
    exact hI
   ·intro j oj d hj hspj hoj hl hd
    by_cases hij:c.1=j
    ·subst hij
     exact hcR c hc _
    ·rw[jn hi hj ho hoj hd hsz hij]
     exact hR j oj d hj hspj hoj (by rwa[jm hij] at hl) hd
   ·intro c' hc'
    obtain ⟨oc',k1,k2,k3,_,⟨op',k5,k6,k7⟩,⟨e,he,hb,hon⟩,_⟩:=hcp c' hc'
    by_cases hcc:c.1=c'.1
    ·rw[<-hcc,hset]
     refine ⟨fun _=>?_,fun h=>(by cases h)⟩
     obtain rfl:oc=oc':=Option.some.inj (ho.symm.trans (by rw[hcc];exact k1))
     have ht:c.2.1=c'.2.1:=Option.some.inj (c3.symm.trans k3)
     have hs:c.2.2.1=c'.2.2.1:=by
      have h1:=(hcp c hc).choose_spec
      have h2:=(hcp c' hc').choose_spec
      have e1:(hcp c hc).choose=oc:=Option.some.inj (h1.1.symm.trans ho)
      have e2:(hcp c' hc').choose=oc:=Option.some.inj (h2.1.symm.trans k1)
      have h3:=h1.2.2.2.1
      have h4:=h2.2.2.2.1
      rw[e1] at h3
      rw[e2] at h4
      have h5:=h3.symm.trans h4
      simpa using h5
     rw[<-ht,<-hs,hself hi ho c3 hsz,jn hi c7 ho c5 c6 hsz c9]
    ·rw[jm hcc,jn hi k2 ho k1 k3 hsz hcc]
     refine ⟨fun h=>?_,(hC c' hc').2⟩
     have hne2:c.1≠c'.2.2.2:=fun e2=>by
      have:=hCl c'.1 oc' k2 k1 h e he hb
      rw[hon,<-e2,hun] at this
      cases this
     rw[jn hi k7 ho k5 k6 hsz hne2]
     exact (hC c' hc').1 h
  by_cases h1:i=ba
  ·subst h1
   obtain rfl:oba=o:=Option.some.inj (hba1.symm.trans ho)
   refine zau (zaF hgd hi ho) (hmA x w1 hdf hsz hdC ja) ?_
   rintro x' w' ⟨rfl,rfl⟩
   refine ⟨rfl,_,rfl,hT.next (Turned.of_below (Below.one _ _)),?_,hRs _ (by simp),hCp _ hq,hCl',by rw[jm n1,jm n3,jn hba3 hpa3 hba1 hpa1 hpa2 hsz n1,jn hba3 hpb3 hba1 hpb1 hpb2 hsz n3];exact hSh.trans (Shown.below (Below.one _ _))⟩
   rw[hset,jm n1,jm n2,jm n3,hself hba3 hba1 hba2 hsz,jn hba3 hpa3 hba1 hpa1 hpa2 hsz n1,jn hba3 hbb3 hba1 hbb1 hbb2 hsz n2,jn hba3 hpb3 hba1 hpb1 hpb2 hsz n3]
   exact hI.made
  ·by_cases h2:i=pa
   ·subst h2
    obtain rfl:opa=o:=Option.some.inj (hpa1.symm.trans ho)
    have hmade:listed.getD ba false=true:=by
     obtain ⟨e,he,hb,hon⟩:=hdA
     have:=hdeps e he hb
     rwa[hon] at this
    have hI':=hI
    rw[hun,hmade] at hI'
    have hg:=hI'.twin.1
    have hh:=(hI'.halfA rfl).2 rfl
    simp only[Bool.false_eq_true,if_false] at hg
    refine zau (zaF hgd hi ho) (hgA x w1 _ hdf hsz hdC ja hg hh) ?_
    rintro x' w' ⟨o',len',cap',rfl,k1,k2,k3⟩
    refine ⟨rfl,_,rfl,hT.next (k2.wider fun _ _ h=>.inl h),?_,hRs _ (by simp),hCp _ hq,hCl',by
     rw[hset,jm n5,hself hpa3 hpa1 hpa2 hsz,jn hpa3 hpb3 hpa1 hpb1 hpb2 hsz n5,if_pos rfl]
     rw[hun] at hSh
     simp only[Bool.false_eq_true,if_false] at hSh
     exact hSh.trans k3⟩
    rw[hset,jm (Ne.symm n1),jm n4,jm n5,hself hpa3 hpa1 hpa2 hsz,jn hpa3 hba3 hpa1 hba1 hba2 hsz (Ne.symm n1),jn hpa3 hbb3 hpa1 hbb1 hbb2 hsz n4,jn hpa3 hpb3 hpa1 hpb1 hpb2 hsz n5,hmade]
    exact hI'.grown k1 k2 k3
   ·by_cases h3:i=bb
    ·subst h3
     obtain rfl:obb=o:=Option.some.inj (hbb1.symm.trans ho)
     refine zau (zaF hgd hi ho) (hmB x w1 hdf hsz hdC ja) ?_
     rintro x' w' ⟨rfl,rfl⟩
     refine ⟨rfl,_,rfl,hT.next (Turned.of_below (Below.one _ _)),?_,hRs _ (by simp),hCp _ hq,hCl',by rw[jm (Ne.symm n4),jm n6,jn hbb3 hpa3 hbb1 hpa1 hpa2 hsz (Ne.symm n4),jn hbb3 hpb3 hbb1 hpb1 hpb2 hsz n6];exact hSh.trans (Shown.below (Below.one _ _))⟩
     rw[hset,jm (Ne.symm n2),jm (Ne.symm n4),jm n6,hself hbb3 hbb1 hbb2 hsz,jn hbb3 hba3 hbb1 hba1 hba2 hsz (Ne.symm n2),jn hbb3 hpa3 hbb1 hpa1 hpa2 hsz (Ne.symm n4),jn hbb3 hpb3 hbb1 hpb1 hpb2 hsz n6]
     exact hI.symm.made.symm
    ·by_cases h4:i=pb
     ·subst h4
      obtain rfl:opb=o:=Option.some.inj (hpb1.symm.trans ho)
      have hmade:listed.getD bb false=true:=by
       obtain ⟨e,he,hb,hon⟩:=hdB
       have:=hdeps e he hb
       rwa[hon] at this
      have hI':=hI.symm
      rw[hun,hmade] at hI'
      have hg:=hI'.twin.1
      have hh:=(hI'.halfA rfl).2 rfl
      simp only[Bool.false_eq_true,if_false] at hg
      refine zau (zaF hgd hi ho) (hgB x w1 _ hdf hsz hdC ja hg hh) ?_
      rintro x' w' ⟨o',len',cap',rfl,k1,k2,k3⟩
      refine ⟨rfl,_,rfl,hT.next (k2.wider fun _ _ h=>.inr h),?_,hRs _ (by simp),hCp _ hq,hCl',by
       rw[hset,jm (Ne.symm n5),hself hpb3 hpb1 hpb2 hsz,jn hpb3 hpa3 hpb1 hpa1 hpa2 hsz (Ne.symm n5),if_pos rfl]
       rw[hun] at hSh
       simp only[Bool.false_eq_true,if_false] at hSh
       exact hSh.trans (Shown.swap k3)⟩
      rw[hset,jm (Ne.symm n3),jm (Ne.symm n5),jm (Ne.symm n6),hself hpb3 hpb1 hpb2 hsz,jn hpb3 hba3 hpb1 hba1 hba2 hsz (Ne.symm n3),jn hpb3 hpa3 hpb1 hpa1 hpa2 hsz (Ne.symm n5),jn hpb3 hbb3 hpb1 hbb1 hbb2 hsz (Ne.symm n6),hmade]
      exact (hI'.grown k1 k2 k3).symm
     ·have hsp:¬i∈[ba,pa,bb,pb]:=by simp[h1,h2,h3,h4]
      refine zau (zaF hgd hi ho) (hops i o hi hsp hq ho x w1 hdf hsz hT hdC ja fun c hc ⟨oc,g1,e,he,hb,hon⟩=>(hC c hc).2 (by
       cases hl:listed.getD c.1 false with
       | false=>rfl
       | true=>
        have:=hCl c.1 oc (by have:=(hcp c hc).choose_spec.2.1;exact this) g1 hl e he hb
        rw[hon,hun] at this
        cases this)) ?_
      rintro x' w' ⟨rfl,v,rfl,hv⟩
      refine ⟨rfl,_,rfl,hT,?_,?_,hCp _ hq,hCl',by rw[jm h2,jm h4,jn hi hpa3 ho hpa1 hpa2 hsz h2,jn hi hpb3 ho hpb1 hpb2 hsz h4];exact hSh⟩
      ·rw[jm h1,jm h2,jm h3,jm h4,jn hi hba3 ho hba1 hba2 hsz h1,jn hi hpa3 ho hpa1 hpa2 hsz h2,jn hi hbb3 ho hbb1 hbb2 hsz h3,jn hi hpb3 ho hpb1 hpb2 hsz h4]
       exact hI
      ·intro j oj d hj hspj hoj hl hd
       by_cases hij:i=j
       ·subst hij
        obtain rfl:oj=o:=Option.some.inj (hoj.symm.trans ho)
        rw[hself hi ho hd hsz]
        exact hv
       ·rw[jn hi hj ho hoj hd hsz hij]
        exact hR j oj d hj hspj hoj (by rwa[jm hij] at hl) hd
 ·intro listed x w1 hall hdf hsz ja ⟨hT,hI,hR,hC,_,hSh⟩
  have htw':=hI.twin
  rw[hall pa hpa3,hall pb hpb3] at htw'
  simp only[if_true] at htw'
  exact hend x w1 hdf hsz hT ja htw' (fun i o d hi hsp ho hd=>hR i o d hi hsp ho (hall i hi) hd) (fun c hc=>(hC c hc).1 (hall c.1 (hcp c hc).choose_spec.2.1)) (by rw[hall pa hpa3,hall pb hpb3,if_pos rfl,if_pos rfl] at hSh;exact hSh)
end
section
open Go Go.RowKit
theorem XS.old {S:Nat->Prop} {b H n base:Nat} {w W:World} {lA lB:List Dat} {uA uB:Value} (h:XS S b H n w W) (ht:Twin W (S1 S H) base lA lB uA uB) (hb:w.heap.size<=base):Shown w S W (SR (SR (S1 S H) uB) uA):=fun c o u hc hu=>by
 have hlt:=zai hu
 obtain ⟨h1,h2⟩:=h.start c o u hc hu
 refine ⟨fun hs=>?_,h2⟩
 rcases hs with (hs | hs) | hs
 ·exact h1 hs
 ·have:=(ht.2.block hs).1;omega
 ·have:=(ht.1.block hs).1;omega
theorem XS.rowsLt {S:Nat->Prop} {b H n base:Nat} {w W:World} {lA lB:List Dat} {uA uB:Value} (h:XS S b H n w W) (ht:Twin W (S1 S H) base lA lB uA uB):∀c,SR (SR (S1 S H) uB) uA c->c<W.heap.size:=fun c hc=>by
 rcases hc with (hs | hs) | hs
 ·exact h.lt c hs
 ·exact (ht.2.block hs).2
 ·exact (ht.1.block hs).2
theorem Twin.turned {S:Nat->Prop} {b base:Nat} {W W':World} {lA lB:List Dat} {uA uB:Value} (h:Twin W S base lA lB uA uB) (hb:S b) (ht:Turned (fun c=>c=b) W W'):Twin W' S base lA lB uA uB:=
 ⟨h.1.turned ht fun c _ hc=>by subst hc;exact .inl hb,h.2.turned ht fun c _ hc=>by subst hc;exact .inl hb⟩
theorem XS.wide {S:Nat->Prop} {T:Nat->Prop} {b H n n0 B:Nat} {w W W':World} (h:XS S b H n w W) (hV:Env w) (hx:XP w b n0) (ht:Turned T W W') (hT:∀c,T c->B<=c) (hB:H<B):XS S b H n w W':=by
 have hbw:=h.hS b h.own
 have hle:=h.le
 have htt:Turned (fun c=>c=b) w W':=⟨ht.os.trans h.ht.os,ht.tape.trans h.ht.tape,ht.output.trans h.ht.output,Nat.le_trans h.ht.size ht.size,fun c hc hn=>(ht.block c (qzM hc h.ht.size) fun hs=>by have:=hT c hs;omega).trans (h.ht.block c hc hn)⟩
 exact ⟨h.hS,h.own,h.le,htt,(ht.block b (qzM hbw h.ht.size) fun hs=>by have:=hT b hs;omega).trans h.hx,Env.turned hV hx htt,(ht.block H h.box.lt fun hs=>by have:=hT H hs;omega).trans h.box⟩
def BoR (u5 va u6 vc sl sl2:Value) (i:Nat) (v:Value):Prop:=match i with
 | 0=>v=u5
 | 1=>v=va
 | 4=>v=u6
 | 5=>v=vc
 | 8=>v=sl
 | 9=>v=sl2
 | _=>True
def BoI (S:Nat->Prop) (b:Nat) (E:Dat->Sy.M Dat) (L:Dat->List Dat->Sy.M Dat) (l:List Dat) (r:Option (Dat × Nat)) (w W0:World) (g:Nat) (sl u5 u6:Value) (wr:World):Prop:=Hid (∃(rest dn dv:List Dat) (n:Nat),g=rest.length∧(∀y∈rest,Sy.small y=true)∧dn.length=dv.length∧dn.length+rest.length=l.length∧XS S b w.heap.size n w wr∧Twin wr (S1 S w.heap.size) W0.heap.size dn dv u5 u6∧RepS (hide w S) w.heap.size rest sl∧Sy.bodyF E L rest dn dv n=some r)
theorem zd0 {E:Dat->Sy.M Dat} {L:Dat->List Dat->Sy.M Dat} (hE:EOk E) (hL:LOk L) (S:Nat->Prop) (b n:Nat) (l:List Dat) (sl:Value) (w:World) (r:Option (Dat × Nat)) (hr:Sy.body E L l n=some r) (hsm:∀y∈l,Sy.small y=true) (jk:l.length<=100000) (hS:∀c,S c->c<w.heap.size) (hb:S b) (hx:XP w b n) (hV:Env w) (hv:RepS (hide w S) w.heap.size l sl) :
  Calls prog 29 #[.pointer (some ⟨b,0,none⟩),sl] w (XRes S b r w):=by
 obtain ⟨W0,hW0,hst⟩:=zaw hS hb hx hV
 have HST:=zh hst
 have HW0:=zh hW0
 have HV0:=zh hV
 have HX0:=zh hx
 have HW0s:=zh (show w.heap.size<=W0.heap.size from hst.ht.size)
 have HSTL:=zh (show w.heap.size<W0.heap.size from hst.box.lt)
 have HI0:=zh (show BoI S b E L l r w W0 l.length sl (.slice none 0 0) (.slice none 0 0) W0 from
  zh ⟨l,[],[],n,rfl,hsm,rfl,by simp,hst,⟨GrownS.nil _ (fun c h=>h.elim (hst.lt c) fun h=>by simp[Value.ownBlock] at h) qzL,GrownS.nil _ (fun c h=>h.elim (hst.lt c) fun h=>by simp[Value.ownBlock] at h) qzL⟩,hv,hr⟩)
 have HE:=zh hE
 have HL:=zh hL
 have HLEN:=zh jk
 obtain ⟨osl,lsl,csl,rfl,_,_⟩:=Sp.slice (Sp.ofS hv)
 clear hst hW0 hE hL jk hr hsm hS hb hx hV hv
 go_enter func29,ntmps29
 go_upto_region 1 with fail
 rw[HW0.out]
 go_upto_region 2 with fail
 go_loopg [1,5,6] l.length (fun g s1 u5 u6 wr=>BoI S b E L l r w W0 g s1 u5 u6 wr)
 case atStart=>exact HI0.out
 case round=>
  obtain ⟨rest,dn,dv,n,rfl,hsm,hdl,hll,hst,htw,hv,hr⟩:=hrel.out
  obtain ⟨osl,lsl,csl,rfl,hln,_⟩:=Sp.slice (Sp.ofS hv)
  have HST:=zh hst
  have HTW:=zh htw
  have HV:=zh hv
  have HLL:=zh hll
  have HDL:=zh hdl
  have HSM:=zh hsm
  have HDI:=zh (zaM dn _ wr.heap.size wr htw.1.rep.unhide qzL (by have:=HLEN.out;omega))
  obtain ⟨di,hdi⟩:∃di,Sy.distinct dn=di:=⟨_,rfl⟩
  rw[hdi] at HDI
  have HLN:=zh hln
  have HR:=zh hr
  have hsS:=hst.old htw HW0s.out
  have HRL:=zh (hst.rowsLt htw)
  have HSZ:=zh hst.ht.size
  have HSS:=zh hsS
  clear hrel hsm hdl hll hst htw hv hr hln hsS
  match rest,HLN,HV,HLL,HSM,HR with
  | [],HLN,HV,HLL,HSM,HR=>
   obtain rfl:lsl=0:=HLN.out
   have hrn:=Sy.bad_split (n:=n) HR.out
   subst hrn
   clear hdi
   cases di
   ·go_wp2_with (first | (go_at_call 49;refine HDI.out.mono ?_;rintro e' w2 ⟨rfl,hb2⟩) | (go_at_call 30;refine (zaf _).mono ?_;rintro e' wN ⟨rfl,rfl⟩) | fail)
    exact ⟨rfl,HST.out.bad' (Turned.of_below hb2)⟩
   ·go_wp2_with (first | (go_at_call 49;refine HDI.out.mono ?_;rintro e' w2 ⟨rfl,hb2⟩) | (go_at_call 30;refine (zaf _).mono ?_;rintro e' wN ⟨rfl,rfl⟩) | fail)
    exact ⟨rfl,HST.out.bad' (Turned.of_below hb2)⟩
  | x::rest,HLN,HV,HLL,HSM,HR=>
   have ht0:0<lsl:=by rw[HLN.out];simp
   have ht1:(0:Int)<lsl:=by omega
   have ht2:decide ((lsl:Int) > 0)=true:=by simp;omega
   have hvW:(Sp.row (some (x::rest))).holds (SR (SR (S1 S w.heap.size) u6) u5) (.slice osl lsl csl) wr:=Sp.ofS (HV.out.shown HSS.out HSZ.out)
   obtain ⟨c1,off1,rfl,hel⟩:=Sp.nth (j:=0) hvW rfl
   obtain ⟨k3,m3,d3,st3,o3,len3,cap3,hxr,e0,e1,e2,e3,e4,el⟩:=Sp.cells hel
   simp only[Nat.zero_mul,Nat.add_zero] at e0 e1 e2 e3 e4
   obtain ⟨df,hdf⟩:∃df,Sy.define E L x=df:=⟨_,rfl⟩
   have hxs:=HSM.out x (by simp)
   match df,hdf with
   | none,hdf=>
    have HR1:=zh (show Sy.need (Sy.distinct dn) (Sy.bnd (if rest.isEmpty then E x else Sy.begin E (x::rest)) fun q=>Sy.ret (if dn.isEmpty then q else Sy.form Sy.letrecSB [Sy.pairs dn dv,q])) n=some r from by have h:=HR.out;rw[Sy.bodyF,hdf] at h;exact h)
    have HDF:=zh (zdP HE.out HL.out (SR (SR (S1 S w.heap.size) u6) u5) b n x _ wr none (by unfold defR;rw[hdf]) HRL.out (.inl (.inl (.inl HST.out.own))) HST.out.hx HST.out.hE hxr hxs)
    clear hvW hel hxr HDI hdf hxs
    go_upto_region 6 with (first | (go_at_call 48;refine HDF.out.mono ?_;rintro e' w5 ⟨⟨v1,v2,rfl,rfl,rfl⟩,hb5⟩) | fail)
    obtain ⟨W6,hW6⟩:∃W6,(w5.alloc (.cells #[.int .i64 0,.int .i64 0,.int .i64 0,.string ⟨#[]⟩,.slice none 0 0] 26)).alloc (.cells #[.int .i64 0,.int .i64 0,.int .i64 0,.string ⟨#[]⟩,.slice none 0 0] 26)=W6:=⟨_,rfl⟩
    have hb6:Below wr.heap.size wr W6:=by rw[<-hW6];exact hb5.trans (((Below.one w5 _).trans ((Below.one _ _).mono (by simp))).mono hb5.size)
    rw[hW6]
    have HST6:=zh (HST.out.below hb6)
    have HTW6:=zh (Twin.turned HTW.out (.inl HST.out.own) (Turned.of_below hb6))
    have HDI:=zh (zaM dn _ W6.heap.size W6 HTW6.out.1.rep.unhide qzL (by have:=HLEN.out;have:=HLL.out;omega))
    rw[hdi] at HDI
    have HNS:=zh (Sy.need_split HR1.out)
    rw[hdi] at HNS
    clear hb5 hb6 hW6 e0 e1 e2 e3 e4 el hdi
    cases di
    ·have hrn:=HNS.out.1 (by trivial)
     subst hrn
     go_wp2_with (first | (go_at_call 49;refine HDI.out.mono ?_;rintro e' w2 ⟨rfl,hb2⟩) | (go_at_call 30;refine (zaf _).mono ?_;rintro e' wN ⟨rfl,rfl⟩) | fail)
     exact ⟨rfl,HST6.out.bad' (Turned.of_below hb2)⟩
    ·go_upto_region 8 with (first | (go_at_call 49;refine HDI.out.mono ?_;rintro e' w2 ⟨rfl,hb2⟩) | (go_at_call 30;refine (zah _).mono ?_;rintro e' wN ⟨⟨vN,rfl⟩,rfl⟩) | fail)
     have HST7:=zh (HST6.out.below hb2)
     have HTW7:=zh (Twin.turned HTW6.out (.inl HST.out.own) (Turned.of_below hb2))
     obtain ⟨W8,hW8⟩:∃W8,wN.alloc (.cells #[.int .i64 0,.int .i64 0,.int .i64 0,.string ⟨#[]⟩,.slice none 0 0] 26)=W8:=⟨_,rfl⟩
     have jc:XS (S1 S w.heap.size) b wN.heap.size n wN W8:=by rw[<-hW8];exact zfx HST7.out.lt (.inl HST.out.own) HST7.out.hx HST7.out.hE
     rw[hW8]
     have HSP:=zh jc
     have HL8:=zh (jc.first (HST7.out.first (Sp.ofS HV.out)))
     obtain ⟨p1,hp1,hn1,hk⟩:=Sy.bnd_split (HNS.out.2 (by trivial))
     have HP1:=zh hp1
     have jh:=zh hn1
     have HRF:=zh hk
     clear hb2 hW8 jc hp1 hn1 hk
     match rest,HLN,HL8,HLL,HP1 with
     | [],HLN,HL8,HLL,HP1=>
      obtain rfl:lsl=1:=HLN.out
      have HP1:=zh (show E x n=some p1 from HP1.out)
      go_upto_region 9 with fail
      refine zad (dr:=false) (S:=(S1 S w.heap.size)) (b:=b) (H:=wN.heap.size) 5 [4] (fun j=>[n,cnt p1].getD j 0) [.val (.pointer (some ⟨b,0,none⟩)),.row (some (x::[])),.elm (some (x)),.dat (some (x)),.dat (p1.map (·.1))] HSP.out (by show zB _ _ 5 64=true;kernel_rfl) (by decide) (by decide) (by kernel_rfl) ?hops ?hcall ?hend
      case hops=>
       intro i o8 hi hip ho a8 w8 hdf jd ht8 jb ja
       match i,hi,hip with
       | 0,_,_=>cases ho;exact zac rfl (Sp.at ja 0 (by kernel_rfl) (rfl) (.inl HSP.out.own) ht8)
       | 1,_,_=>cases ho;exact zac rfl (Sp.at ja 1 (by kernel_rfl) (HL8.out) (.inl HSP.out.own) ht8)
       | 2,_,_=>cases ho;exact zas (k:=0) rfl (Sp.dep jb 1 47 (by kernel_rfl)) rfl (by decide)
       | 3,_,_=>cases ho;exact zal rfl (Sp.dep jb 2 48 (by kernel_rfl))
       | 4,_,h=>exact absurd (by decide) h
       | i+5,hi,_=>exact absurd hi (by omega)
      case hcall=>
       intro j i o8 hj ho a8 w8 hdf jc ht8 jb jg ja
       match j,hj with
       | 0,hj=>
        cases hj;cases ho
        have hv0:a8.tmps.getD 46 undef=.pointer (some ⟨b,0,none⟩):=(Sp.dep jb 0 46 (by kernel_rfl))
        refine zaI (p:=p1) (vals:=#[.pointer (some ⟨b,0,none⟩),a8.tmps.getD 49 undef]) rfl (by simp only[List.map_toArray,List.map_cons,List.map_nil];rw[<-hv0];rfl) (fun _ _=>rfl) (HE.out (S1 (S1 S w.heap.size) wN.heap.size) b _ x _ w8 p1 HP1.out jc.lt (.inl jc.own) jc.hx jc.hE (Sp.datum (Sp.dep jb 3 49 (by kernel_rfl)))) fun hp w9 ht9=>?_
        have hrn:=jh.out hp
        subst hrn
        exact ⟨hdf,HST7.out.bad' (jc.ht.next ht9)⟩
       | _+1,hj=>simp at hj
      case hend=>
       intro a8 w8 hdf hsz jc ht8 hval ja
       obtain ⟨y1,n1,hq1,hr8⟩:=Sp.got (hval 4 _ 50 (by omega) rfl rfl)
       subst hq1
       obtain ⟨f8,ha,hf8⟩:=zaq [false,false,false,false,false,false,false,false,false,false,false,false,false,false,false,false,false,false,false,false,false,false,false,false,false,false,false,false,false,false,false,false,false,false,false,false,false,false,false,false,false,false,false,false,false,false,true,true,true,true,true] (by kernel_rfl) hdf hsz ja
       rw[<-hf8] at hr8
       subst ha
       obtain ⟨k8,m8,d8,s8,o8,len8,cap8,h8⟩:=zae hr8.unhide
       rw[h8] at hr8
       obtain ⟨g0,g1,g2,g3,g4⟩:=jc.box.cells
       obtain ⟨z0,z1,z2,z3,z4⟩:=jc.box.free
       have pl:=jc.box.lt
       obtain ⟨W9,hW9⟩:∃W9,set5 w8 wN.heap.size (.int .i64 k8) (.int .i64 m8) (.int .i64 d8) (.string s8) (.slice o8 len8 cap8)=W9:=⟨_,rfl⟩
       have htt:Turned (fun c=>c=b) wN W9:=by rw[<-hW9];exact jc.ht.seq (zag _ _ _ _ _ _ _ _ qzL)
       have hne:b≠wN.heap.size:=fun h=>by have:=HST7.out.lt b (.inl HST.out.own);omega
       have hxp:XP W9 b n1:=by rw[<-hW9];exact (zam w8 _ _ _ _ _ _ hne).trans jc.hx
       have hb9:Box5 W9 wN.heap.size 26 (.int .i64 k8) (.int .i64 m8) (.int .i64 d8) (.string s8) (.slice o8 len8 cap8):=by rw[<-hW9];exact jc.box.set (.int .i64 k8) (.int .i64 m8) (.int .i64 d8) (.string s8) (.slice o8 len8 cap8)
       have hr9:RepD (hide W9 (S1 S w.heap.size)) W9.heap.size y1 (.agg #[.int .i64 k8,.int .i64 m8,.int .i64 d8,.string s8,.slice o8 len8 cap8]):=by rw[<-hW9];exact hr8.shown ((Shown.five w8 (S:=(S1 (S1 S w.heap.size) wN.heap.size)) (.inr rfl) (.int .i64 k8) (.int .i64 m8) (.int .i64 d8) (.string s8) (.slice o8 len8 cap8)).trans (Shown.less _ fun _ _ h=>.inl h)) (by rw[zan];exact qzL)
       have HST9:=zh (HST7.out.next htt hxp)
       have HTW9:=zh (Twin.turned HTW7.out (.inl HST.out.own) htt)
       have HEL9:=zh (show (Sp.elm (some y1)).holds (S1 S w.heap.size) (.pointer (some ⟨wN.heap.size,0,none⟩)) W9 from Sp.box hb9 hr9 fun h=>by have:=HST7.out.lt _ h;omega)
       have HD9:=zh (show (Sp.row (some dn)).holds (S1 S w.heap.size) u5 W9 from Sp.ofS (HTW9.out.1.less (S:=(S1 S w.heap.size)) (fun c h=>.inl h) qzL).rep)
       have HW9v:=zh (show (Sp.row (some dv)).holds (S1 S w.heap.size) u6 W9 from Sp.ofS (HTW9.out.2.less (S:=(S1 S w.heap.size)) (fun c h=>.inl h) qzL).rep)
       have HRN:=zh (HRF.out _ _ rfl)
       have HW9:=zh hW9
       clear hval ja hf8 hdf hsz hr8 jc ht8 htt hne hxp hb9 hr9 hW9 HP1 jh HRF
       simp only[spellH,List.drop_succ_cons,List.drop_zero,h8]
       obtain ⟨od,ldn,cdn,rfl,hldn,_⟩:=Sp.slice HD9.out
       have HLDN:=zh hldn
       clear hldn
       match dn,HLDN,HD9,HLL,HDL,HRN with
       | [],HLDN,HD9,HLL,HDL,HRN=>
        obtain rfl:ldn=0:=HLDN.out
        go_upto_region 12 with fail
        show Code.wp _ _ _ _ (set5 w8 wN.heap.size (.int .i64 k8) (.int .i64 m8) (.int .i64 d8) (.string s8) (.slice o8 len8 cap8))
        rw[HW9.out]
        clear g0 g1 g2 g3 g4 z0 z1 z2 z3 z4 pl
        refine zad (dr:=false) (S:=S) (b:=b) (H:=w.heap.size) 1 [] (fun j=>[n1].getD j 0) [.dat (some (y1))] HST9.out (by show zB _ _ 1 64=true;kernel_rfl) (by decide) (by decide) (by kernel_rfl) ?hops ?hcall ?hend
        case hops=>
         intro i o8 hi hip ho a8 w8 hdf jd ht8 jb ja
         match i,hi,hip with
         | 0,_,_=>cases ho;exact zal rfl (Sp.at ja 10 (by kernel_rfl) (HEL9.out) (.inl HST9.out.own) ht8)
         | i+1,hi,_=>exact absurd hi (by omega)
        case hcall=>
         intro j i o8 hj ho a8 w8 hdf jc ht8 jb jg ja
         simp at hj
        case hend=>
         intro a8 w8 hdf hsz jc ht8 hval ja
         refine fin_s (r:=r) jc (hval 0 _ 57 (by omega) rfl rfl) (fun x8 hx8=>?_) ((ja.at 4 (by kernel_rfl)).trans rfl) hdf rfl results29 fun w9 h9=>?_
         ·clear hval ja hdf hsz jc ht8
          cases hx8
          exact Sy.ret_split HRN.out
         ·go_wp2_with fail
       | d1::dn,HLDN,HD9,HLL,HDL,HRN=>
        have hl1:0<ldn:=by rw[HLDN.out];simp
        have hl2:((ldn:Int)==0)=false:=by simp;omega
        have hl3:¬ldn=0:=by omega
        go_upto_region 13 with fail
        show Code.wp _ _ _ _ (set5 w8 wN.heap.size (.int .i64 k8) (.int .i64 m8) (.int .i64 d8) (.string s8) (.slice o8 len8 cap8))
        rw[HW9.out]
        clear g0 g1 g2 g3 g4 z0 z1 z2 z3 z4 pl
        refine zad (dr:=true) (S:=S) (b:=b) (H:=w.heap.size) 6 [] (fun j=>[n1].getD j 0) [.row (some (d1::dn)),.row (some (dv)),.dat (some (Sy.pairs (d1::dn) (dv))),.dat (some (y1)),.row ((some (Sy.pairs (d1::dn) (dv))).bind fun u0_62=>(some (y1)).bind fun u1_62=>some [u0_62,u1_62]),.dat (((some (Sy.pairs (d1::dn) (dv))).bind fun u0_62=>(some (y1)).bind fun u1_62=>some [u0_62,u1_62]).map (Sy.form ⟨#[108,101,116,114,101,99,42]⟩))] HST9.out (by show zB _ _ 6 64=true;kernel_rfl) (by decide) (by decide) (by kernel_rfl) ?hops ?hcall ?hend
        case hops=>
         intro i o8 hi hip ho a8 w8 hdf jd ht8 jb ja
         match i,hi,hip with
         | 0,_,_=>cases ho;exact zac rfl (Sp.at ja 5 (by kernel_rfl) (HD9.out) (.inl HST9.out.own) ht8)
         | 1,_,_=>cases ho;exact zac rfl (Sp.at ja 6 (by kernel_rfl) (HW9v.out) (.inl HST9.out.own) ht8)
         | 2,_,_=>cases ho;exact zcU rfl (Sp.dep jb 0 58 (by kernel_rfl)) (Sp.dep jb 1 59 (by kernel_rfl)) (HDL.out) (by have:=HLL.out;have:=HLEN.out;omega) jd
         | 3,_,_=>cases ho;exact zal rfl (Sp.at ja 10 (by kernel_rfl) (HEL9.out) (.inl HST9.out.own) ht8)
         | 4,_,_=>cases ho;exact zdp rfl (Sp.dep jb 2 60 (by kernel_rfl)) (Sp.dep jb 3 61 (by kernel_rfl)) jd
         | 5,_,_=>cases ho;exact za9 rfl (Sp.dep jb 4 62 (by kernel_rfl)) (by decide) (rowlen2) jd
         | i+6,hi,_=>exact absurd hi (by omega)
        case hcall=>
         intro j i o8 hj ho a8 w8 hdf jc ht8 jb jg ja
         simp at hj
        case hend=>
         intro a8 w8 hdf hsz jc ht8 hval ja
         refine fin_s (r:=r) jc (hval 5 _ 63 (by omega) rfl rfl) (fun x8 hx8=>?_) ((ja.at 4 (by kernel_rfl)).trans rfl) hdf rfl results29 fun w9 h9=>?_
         ·clear hval ja hdf hsz jc ht8
          cases hx8
          exact Sy.ret_split HRN.out
         ·go_wp2_with fail
     | z::rest,HLN,HL8,HLL,HP1=>
      have hz1:¬lsl=1:=by rw[HLN.out];simp
      have hz2:((lsl:Int)==1)=false:=by simp;omega
      have HP1:=zh (show Sy.begin E (x::z::rest) n=some p1 from HP1.out)
      go_upto_region 10 with fail
      refine zad (dr:=false) (S:=(S1 S w.heap.size)) (b:=b) (H:=wN.heap.size) 3 [2] (fun j=>[n,cnt p1].getD j 0) [.val (.pointer (some ⟨b,0,none⟩)),.row (some (x::z::rest)),.dat (p1.map (·.1))] HSP.out (by show zB _ _ 3 64=true;kernel_rfl) (by decide) (by decide) (by kernel_rfl) ?hops ?hcall ?hend
      case hops=>
       intro i o8 hi hip ho a8 w8 hdf jd ht8 jb ja
       match i,hi,hip with
       | 0,_,_=>cases ho;exact zac rfl (Sp.at ja 0 (by kernel_rfl) (rfl) (.inl HSP.out.own) ht8)
       | 1,_,_=>cases ho;exact zac rfl (Sp.at ja 1 (by kernel_rfl) (HL8.out) (.inl HSP.out.own) ht8)
       | 2,_,h=>exact absurd (by decide) h
       | i+3,hi,_=>exact absurd hi (by omega)
      case hcall=>
       intro j i o8 hj ho a8 w8 hdf jc ht8 jb jg ja
       match j,hj with
       | 0,hj=>
        cases hj;cases ho
        have hv0:a8.tmps.getD 51 undef=.pointer (some ⟨b,0,none⟩):=(Sp.dep jb 0 51 (by kernel_rfl))
        refine zaI (p:=p1) (vals:=#[.pointer (some ⟨b,0,none⟩),a8.tmps.getD 52 undef]) rfl (by simp only[List.map_toArray,List.map_cons,List.map_nil];rw[<-hv0];rfl) (fun _ _=>rfl) (zaU HE.out (S1 (S1 S w.heap.size) wN.heap.size) b _ (x::z::rest) _ w8 p1 HP1.out jc.lt (.inl jc.own) jc.hx jc.hE (Sp.data (Sp.dep jb 1 52 (by kernel_rfl))) (by have:=HLL.out;have:=HLEN.out;simp only[qzN] at *;omega)) fun hp w9 ht9=>?_
        have hrn:=jh.out hp
        subst hrn
        exact ⟨hdf,HST7.out.bad' (jc.ht.next ht9)⟩
       | _+1,hj=>simp at hj
      case hend=>
       intro a8 w8 hdf hsz jc ht8 hval ja
       obtain ⟨y1,n1,hq1,hr8⟩:=Sp.got (hval 2 _ 53 (by omega) rfl rfl)
       subst hq1
       obtain ⟨f8,ha,hf8⟩:=zaq [false,false,false,false,false,false,false,false,false,false,false,false,false,false,false,false,false,false,false,false,false,false,false,false,false,false,false,false,false,false,false,false,false,false,false,false,false,false,false,false,false,false,false,false,false,false,false,false,false,false,false,true,true,true] (by kernel_rfl) hdf hsz ja
       rw[<-hf8] at hr8
       subst ha
       obtain ⟨k8,m8,d8,s8,o8,len8,cap8,h8⟩:=zae hr8.unhide
       rw[h8] at hr8
       obtain ⟨g0,g1,g2,g3,g4⟩:=jc.box.cells
       obtain ⟨z0,z1,z2,z3,z4⟩:=jc.box.free
       have pl:=jc.box.lt
       obtain ⟨W9,hW9⟩:∃W9,set5 w8 wN.heap.size (.int .i64 k8) (.int .i64 m8) (.int .i64 d8) (.string s8) (.slice o8 len8 cap8)=W9:=⟨_,rfl⟩
       have htt:Turned (fun c=>c=b) wN W9:=by rw[<-hW9];exact jc.ht.seq (zag _ _ _ _ _ _ _ _ qzL)
       have hne:b≠wN.heap.size:=fun h=>by have:=HST7.out.lt b (.inl HST.out.own);omega
       have hxp:XP W9 b n1:=by rw[<-hW9];exact (zam w8 _ _ _ _ _ _ hne).trans jc.hx
       have hb9:Box5 W9 wN.heap.size 26 (.int .i64 k8) (.int .i64 m8) (.int .i64 d8) (.string s8) (.slice o8 len8 cap8):=by rw[<-hW9];exact jc.box.set (.int .i64 k8) (.int .i64 m8) (.int .i64 d8) (.string s8) (.slice o8 len8 cap8)
       have hr9:RepD (hide W9 (S1 S w.heap.size)) W9.heap.size y1 (.agg #[.int .i64 k8,.int .i64 m8,.int .i64 d8,.string s8,.slice o8 len8 cap8]):=by rw[<-hW9];exact hr8.shown ((Shown.five w8 (S:=(S1 (S1 S w.heap.size) wN.heap.size)) (.inr rfl) (.int .i64 k8) (.int .i64 m8) (.int .i64 d8) (.string s8) (.slice o8 len8 cap8)).trans (Shown.less _ fun _ _ h=>.inl h)) (by rw[zan];exact qzL)
       have HST9:=zh (HST7.out.next htt hxp)
       have HTW9:=zh (Twin.turned HTW7.out (.inl HST.out.own) htt)
       have HEL9:=zh (show (Sp.elm (some y1)).holds (S1 S w.heap.size) (.pointer (some ⟨wN.heap.size,0,none⟩)) W9 from Sp.box hb9 hr9 fun h=>by have:=HST7.out.lt _ h;omega)
       have HD9:=zh (show (Sp.row (some dn)).holds (S1 S w.heap.size) u5 W9 from Sp.ofS (HTW9.out.1.less (S:=(S1 S w.heap.size)) (fun c h=>.inl h) qzL).rep)
       have HW9v:=zh (show (Sp.row (some dv)).holds (S1 S w.heap.size) u6 W9 from Sp.ofS (HTW9.out.2.less (S:=(S1 S w.heap.size)) (fun c h=>.inl h) qzL).rep)
       have HRN:=zh (HRF.out _ _ rfl)
       have HW9:=zh hW9
       clear hval ja hf8 hdf hsz hr8 jc ht8 htt hne hxp hb9 hr9 hW9 HP1 jh HRF
       simp only[spellH,List.drop_succ_cons,List.drop_zero,h8]
       obtain ⟨od,ldn,cdn,rfl,hldn,_⟩:=Sp.slice HD9.out
       have HLDN:=zh hldn
       clear hldn
       match dn,HLDN,HD9,HLL,HDL,HRN with
       | [],HLDN,HD9,HLL,HDL,HRN=>
        obtain rfl:ldn=0:=HLDN.out
        go_upto_region 12 with fail
        show Code.wp _ _ _ _ (set5 w8 wN.heap.size (.int .i64 k8) (.int .i64 m8) (.int .i64 d8) (.string s8) (.slice o8 len8 cap8))
        rw[HW9.out]
        clear g0 g1 g2 g3 g4 z0 z1 z2 z3 z4 pl
        refine zad (dr:=false) (S:=S) (b:=b) (H:=w.heap.size) 1 [] (fun j=>[n1].getD j 0) [.dat (some (y1))] HST9.out (by show zB _ _ 1 64=true;kernel_rfl) (by decide) (by decide) (by kernel_rfl) ?hops ?hcall ?hend
        case hops=>
         intro i o8 hi hip ho a8 w8 hdf jd ht8 jb ja
         match i,hi,hip with
         | 0,_,_=>cases ho;exact zal rfl (Sp.at ja 10 (by kernel_rfl) (HEL9.out) (.inl HST9.out.own) ht8)
         | i+1,hi,_=>exact absurd hi (by omega)
        case hcall=>
         intro j i o8 hj ho a8 w8 hdf jc ht8 jb jg ja
         simp at hj
        case hend=>
         intro a8 w8 hdf hsz jc ht8 hval ja
         refine fin_s (r:=r) jc (hval 0 _ 57 (by omega) rfl rfl) (fun x8 hx8=>?_) ((ja.at 4 (by kernel_rfl)).trans rfl) hdf rfl results29 fun w9 h9=>?_
         ·clear hval ja hdf hsz jc ht8
          cases hx8
          exact Sy.ret_split HRN.out
         ·go_wp2_with fail
       | d1::dn,HLDN,HD9,HLL,HDL,HRN=>
        have hl1:0<ldn:=by rw[HLDN.out];simp
        have hl2:((ldn:Int)==0)=false:=by simp;omega
        have hl3:¬ldn=0:=by omega
        go_upto_region 13 with fail
        show Code.wp _ _ _ _ (set5 w8 wN.heap.size (.int .i64 k8) (.int .i64 m8) (.int .i64 d8) (.string s8) (.slice o8 len8 cap8))
        rw[HW9.out]
        clear g0 g1 g2 g3 g4 z0 z1 z2 z3 z4 pl
        refine zad (dr:=true) (S:=S) (b:=b) (H:=w.heap.size) 6 [] (fun j=>[n1].getD j 0) [.row (some (d1::dn)),.row (some (dv)),.dat (some (Sy.pairs (d1::dn) (dv))),.dat (some (y1)),.row ((some (Sy.pairs (d1::dn) (dv))).bind fun u0_62=>(some (y1)).bind fun u1_62=>some [u0_62,u1_62]),.dat (((some (Sy.pairs (d1::dn) (dv))).bind fun u0_62=>(some (y1)).bind fun u1_62=>some [u0_62,u1_62]).map (Sy.form ⟨#[108,101,116,114,101,99,42]⟩))] HST9.out (by show zB _ _ 6 64=true;kernel_rfl) (by decide) (by decide) (by kernel_rfl) ?hops ?hcall ?hend
        case hops=>
         intro i o8 hi hip ho a8 w8 hdf jd ht8 jb ja
         match i,hi,hip with
         | 0,_,_=>cases ho;exact zac rfl (Sp.at ja 5 (by kernel_rfl) (HD9.out) (.inl HST9.out.own) ht8)
         | 1,_,_=>cases ho;exact zac rfl (Sp.at ja 6 (by kernel_rfl) (HW9v.out) (.inl HST9.out.own) ht8)
         | 2,_,_=>cases ho;exact zcU rfl (Sp.dep jb 0 58 (by kernel_rfl)) (Sp.dep jb 1 59 (by kernel_rfl)) (HDL.out) (by have:=HLL.out;have:=HLEN.out;omega) jd
         | 3,_,_=>cases ho;exact zal rfl (Sp.at ja 10 (by kernel_rfl) (HEL9.out) (.inl HST9.out.own) ht8)
         | 4,_,_=>cases ho;exact zdp rfl (Sp.dep jb 2 60 (by kernel_rfl)) (Sp.dep jb 3 61 (by kernel_rfl)) jd
         | 5,_,_=>cases ho;exact za9 rfl (Sp.dep jb 4 62 (by kernel_rfl)) (by decide) (rowlen2) jd
         | i+6,hi,_=>exact absurd hi (by omega)
        case hcall=>
         intro j i o8 hj ho a8 w8 hdf jc ht8 jb jg ja
         simp at hj
        case hend=>
         intro a8 w8 hdf hsz jc ht8 hval ja
         refine fin_s (r:=r) jc (hval 5 _ 63 (by omega) rfl rfl) (fun x8 hx8=>?_) ((ja.at 4 (by kernel_rfl)).trans rfl) hdf rfl results29 fun w9 h9=>?_
         ·clear hval ja hdf hsz jc ht8
          cases hx8
          exact Sy.ret_split HRN.out
         ·go_wp2_with fail
   | some m,hdf=>
    have HR1:=zh (show Sy.bnd m (fun p=>Sy.bodyF E L rest (dn++[p.1]) (dv++[p.2])) n=some r from by have h:=HR.out;rw[Sy.bodyF,hdf] at h;exact h)
    obtain ⟨p1,hp1,hn1,hk⟩:=Sy.bnd_split HR1.out
    have HDF:=zh (zdP HE.out HL.out (SR (SR (S1 S w.heap.size) u6) u5) b n x _ wr (some p1) (by unfold defR;rw[hdf];exact ⟨p1,hp1,rfl⟩) HRL.out (.inl (.inl (.inl HST.out.own))) HST.out.hx HST.out.hE hxr hxs)
    have HK:=zh hk
    have HN:=zh hn1
    clear hvW hel hxr HDI hdf hxs hp1 hn1 hk hdi
    match p1,HDF,HK,HN with
    | none,HDF,HK,HN=>
     have hrn:=HN.out rfl
     subst hrn
     go_wp2_with (first | (go_at_call 48;refine HDF.out.mono ?_;rintro e' w5 ⟨rfl,ht5⟩) | fail)
     exact ⟨rfl,HST.out.bad' ht5⟩
    | some ((a,c),n2),HDF,HK,HN=>
     obtain ⟨sl2,hsl2,hrun⟩:=zfL (k:=1) HV.out (by decide) (by simp) (by decide)
     have HS2:=zh hsl2
     have HRUN:=zh hrun
     clear hsl2 hrun
     go_upto_region 5 with (first | (go_at_call 48;refine HDF.out.mono ?_;rintro e' w5 ⟨v1,v2,rfl,hr5,hr6,ht5,hx5⟩;obtain ⟨k1,m1,d1,s1,o1,len1,cap1,rfl⟩:=zae hr5.unhide;obtain ⟨k2,m2,d2,s2,o2,len2,cap2,rfl⟩:=zae hr6.unhide) | fail)
     obtain ⟨W6,hW6⟩:∃W6,(w5.alloc (.cells #[.int .i64 k1,.int .i64 m1,.int .i64 d1,.string s1,.slice o1 len1 cap1] 26)).alloc (.cells #[.int .i64 k2,.int .i64 m2,.int .i64 d2,.string s2,.slice o2 len2 cap2] 26)=W6:=⟨_,rfl⟩
     have hb6:Below w5.heap.size w5 W6:=by rw[<-hW6];exact (Below.one w5 _).trans ((Below.one _ _).mono (by simp))
     have hq1:Box5 W6 w5.heap.size 26 (.int .i64 k1) (.int .i64 m1) (.int .i64 d1) (.string s1) (.slice o1 len1 cap1):=by rw[<-hW6];exact (Box5.new w5 _ _ _ _ _ _).alloc _
     have hq2:Box5 W6 (w5.heap.size+1) 26 (.int .i64 k2) (.int .i64 m2) (.int .i64 d2) (.string s2) (.slice o2 len2 cap2):=by rw[<-hW6];have h:=Box5.new (w5.alloc (.cells #[.int .i64 k1,.int .i64 m1,.int .i64 d1,.string s1,.slice o1 len1 cap1] 26)) 26 (.int .i64 k2) (.int .i64 m2) (.int .i64 d2) (.string s2) (.slice o2 len2 cap2);rwa[World.size_alloc] at h
     rw[hW6]
     have ht6:Turned (fun c=>c=b) wr W6:=ht5.next (Turned.of_below hb6)
     have HST6:=zh ((HST.out.next ht5 hx5).below hb6)
     have HTW6:=zh (Twin.turned HTW.out (.inl HST.out.own) ht6)
     have HQ1:=zh hq1
     have HQ2:=zh hq2
     have HXA:=zh (show RepD (hide W6 (SR (SR (S1 S w.heap.size) u6) u5)) W6.heap.size a (.agg #[.int .i64 k1,.int .i64 m1,.int .i64 d1,.string s1,.slice o1 len1 cap1]) from hr5.shown (Shown.below hb6) hb6.size)
     have HXB:=zh (show RepD (hide W6 (SR (SR (S1 S w.heap.size) u6) u5)) W6.heap.size c (.agg #[.int .i64 k2,.int .i64 m2,.int .i64 d2,.string s2,.slice o2 len2 cap2]) from hr6.shown (Shown.below hb6) hb6.size)
     have HNE:=zh (show ∀g,(u5.ownBlock=some g∨u6.ownBlock=some g)->W0.heap.size<=g∧g<w5.heap.size from fun g hg=>by
      have hz:=ht5.size
      rcases hg with hg | hg
      ·have:=HTW.out.1.block hg;omega
      ·have:=HTW.out.2.block hg;omega)
     clear hb6 hq1 hq2 ht6 hr5 hr6 ht5 hx5 hW6 e0 e1 e2 e3 e4 el
     have HD5:=zh ((Below.refl W6.heap.size W6).drew)
     have HCB:=zh (show ∀(G:Nat) (c0 c1 c2 c3 c4:Value) (w1:World),w5.heap.size<=G->Box5 W6 G 26 c0 c1 c2 c3 c4->Turned (fun c=>u5.ownBlock=some c∨u6.ownBlock=some c) W6.drew w1->Box5 w1 G 26 c0 c1 c2 c3 c4 from fun G c0 c1 c2 c3 c4 w1 hG hbx ht=>(ht.block G (qzM hbx.lt HD5.out.size) fun hs=>by have:=(HNE.out G hs).2;omega).trans ((HD5.out.block G hbx.lt).trans hbx))
     have hTW:Twin W6.drew (S1 S w.heap.size) W0.heap.size dn dv u5 u6:=⟨HTW6.out.1.below HD5.out,HTW6.out.2.below HD5.out⟩
     have hXA:RepD (hide W6.drew (SR (SR (S1 S w.heap.size) u6) u5)) W6.drew.heap.size a (.agg #[.int .i64 k1,.int .i64 m1,.int .i64 d1,.string s1,.slice o1 len1 cap1]):=HXA.out.shown (Shown.below HD5.out) qzL
     have hXB:RepD (hide W6.drew (SR (SR (S1 S w.heap.size) u5) u6)) W6.drew.heap.size c (.agg #[.int .i64 k2,.int .i64 m2,.int .i64 d2,.string s2,.slice o2 len2 cap2]):=HXB.out.shown ((Shown.flip W6).trans (Shown.below HD5.out)) qzL
     refine zbB 12 2 3 6 7 _ _ _ _ 27 28 31 32 [(10,5,28,3),(11,6,32,7)] (BoR u5 (.agg #[.int .i64 k1,.int .i64 m1,.int .i64 d1,.string s1,.slice o1 len1 cap1]) u6 (.agg #[.int .i64 k2,.int .i64 m2,.int .i64 d2,.string s2,.slice o2 len2 cap2]) (.slice (some ⟨c1,off1,none⟩) lsl csl) sl2) (by kernel_rfl) (by show monoB _ 12 64=true;kernel_rfl) ⟨rfl,rfl,by omega⟩ ⟨rfl,rfl,by omega⟩ ⟨rfl,rfl,by omega⟩ ⟨rfl,rfl,by omega⟩ (by decide) ?hdA ?hdB hTW hXA hXB ?hcp (by decide) ?hcR ?hops ?hmA ?hmB ?hgA ?hgB ?hend
     case hdA=>exact zbi 2 (by kernel_rfl)
     case hdB=>exact zbi 6 (by kernel_rfl)
     case hcp=>
      intro q hq
      simp only[List.mem_cons,List.not_mem_nil,or_false] at hq
      rcases hq with rfl | rfl
      ·exact ⟨_,rfl,by decide,rfl,rfl,⟨_,rfl,rfl,by decide⟩,zbi 3 (by kernel_rfl),by decide⟩
      ·exact ⟨_,rfl,by decide,rfl,rfl,⟨_,rfl,rfl,by decide⟩,zbi 7 (by kernel_rfl),by decide⟩
     case hcR=>
      intro q hq v8
      simp only[List.mem_cons,List.not_mem_nil,or_false] at hq
      rcases hq with rfl | rfl<;>exact trivial
     case hops=>
      intro i o8 hi hsp hsq ho x8 w8 hdf hsz hT jb ja hcf
      match i,hi,hsp,hsq with
      | 0,_,_,_=>
       cases ho
       have h5:x8.tmps.getD 5 undef=u5:=hcf (10,5,28,3) (by simp) ⟨_,rfl,zbi 0 (by kernel_rfl)⟩
       exact zak (v:=u5) rfl (by go_simp) rfl
      | 1,_,_,_=>
       cases ho
       have h7:x8.tmps.getD 7 undef=.pointer (some ⟨w5.heap.size,0,none⟩):=ja.at 7 (by kernel_rfl)
       have hfb:=HCB.out _ _ _ _ _ _ w8 (by omega) HQ1.out hT
       obtain ⟨z0,z1,z2,z3,z4⟩:=hfb.cells
       have zl:=hfb.lt
       exact zak (v:=.agg #[.int .i64 k1,.int .i64 m1,.int .i64 d1,.string s1,.slice o1 len1 cap1]) rfl (by go_simp) rfl
      | 2,_,h,_ | 3,_,h,_ | 6,_,h,_ | 7,_,h,_=>exact absurd (by decide) h
      | 10,_,_,h | 11,_,_,h=>exact absurd (by decide) h
      | 4,_,_,_=>
       cases ho
       have h6:x8.tmps.getD 6 undef=u6:=hcf (11,6,32,7) (by simp) ⟨_,rfl,zbi 4 (by kernel_rfl)⟩
       exact zak (v:=u6) rfl (by go_simp) rfl
      | 5,_,_,_=>
       cases ho
       have h8:x8.tmps.getD 8 undef=.pointer (some ⟨w5.heap.size+1,0,none⟩):=ja.at 8 (by kernel_rfl)
       have hfb:=HCB.out _ _ _ _ _ _ w8 (by omega) HQ2.out hT
       obtain ⟨z0,z1,z2,z3,z4⟩:=hfb.cells
       have zl:=hfb.lt
       exact zak (v:=.agg #[.int .i64 k2,.int .i64 m2,.int .i64 d2,.string s2,.slice o2 len2 cap2]) rfl (by go_simp) rfl
      | 8,_,_,_=>
       cases ho
       have h1:x8.tmps.getD 1 undef=(.slice (some ⟨c1,off1,none⟩) lsl csl):=ja.at 1 (by kernel_rfl)
       exact zak (v:=(.slice (some ⟨c1,off1,none⟩) lsl csl)) rfl (by go_simp) rfl
      | 9,_,_,_=>
       cases ho
       have h33:x8.tmps.getD 33 undef=.slice (some ⟨c1,off1,none⟩) lsl csl:=zaH jb 8 33 (by kernel_rfl) (by decide)
       exact zak (v:=sl2) rfl (HRUN.out _ x8 w8 33 rfl h33) rfl
     case hmA=>
      intro x8 w8 _ _ jb _
      exact zbj rfl rfl (zaH jb 1 26 (by kernel_rfl) (by decide))
     case hmB=>
      intro x8 w8 _ _ jb _
      exact zbj rfl rfl (zaH jb 5 30 (by kernel_rfl) (by decide))
     case hgA=>
      intro x8 w8 T8 _ _ jb _ hg hk
      exact za1 rfl rfl (zaH jb 0 25 (by kernel_rfl) (by decide)) hg hk (by have:=HLL.out;have:=HLEN.out;simp only[List.length_singleton];omega)
     case hgB=>
      intro x8 w8 T8 _ _ jb _ hg hk
      exact za1 rfl rfl (zaH jb 4 29 (by kernel_rfl) (by decide)) hg hk (by have:=HLL.out;have:=HDL.out;have:=HLEN.out;simp only[List.length_singleton];omega)
     case hend=>
      intro x8 w9 hdf hsz hT ja htw hval hcopy _
      have hc5:x8.tmps.getD 5 undef=x8.tmps.getD 28 undef:=hcopy (10,5,28,3) (by simp)
      have hc6:x8.tmps.getD 6 undef=x8.tmps.getD 32 undef:=hcopy (11,6,32,7) (by simp)
      have hv34:x8.tmps.getD 34 undef=sl2:=hval 9 _ 34 (by omega) (by decide) rfl rfl
      obtain ⟨f8,ha,hf8⟩:=zaq [false,false,false,false,false,true,true,false,false,false,false,false,false,false,false,false,false,false,false,false,false,false,false,false,false,true,true,true,true,true,true,true,true,true,true] (by kernel_rfl) hdf hsz ja
      rw[<-hf8,<-hf8] at htw
      rw[<-hf8] at hv34
      rw[<-hf8,<-hf8] at hc5 hc6
      subst ha
      have HST9:=zh ((HST6.out.below HD5.out).wide HV0.out HX0.out hT (fun c hc=>(HNE.out c hc).1) (show w.heap.size<W0.heap.size from HSTL.out))
      have HTW9:=zh htw
      have HKR:=zh (HK.out (a,c) n2 rfl)
      clear hval hcopy htw hT hdf hsz ja hf8 hTW hXA hXB HCB HRUN
      simp only[spellH,List.drop_succ_cons,List.drop_zero,hv34,hc5,hc6]
      clear hv34 hc5 hc6
      go_wp2_with fail
      go_roundg rest.length
      case measure=>simp
      case rel=>
       exact zh ⟨rest,dn++[a],dv++[c],n2,rfl,fun y hy=>HSM.out y (List.mem_cons_of_mem _ hy),by simp[HDL.out],by have:=HLL.out;simp only[qzN,List.length_append,qzO] at *;omega,HST9.out,HTW9.out,HS2.out,HKR.out⟩
end
section
open Go Go.RowKit
theorem zcu (l:List Dat) (hl:l.length≠1) (S:Nat->Prop) (b n:Nat) (sl:Value) (w:World) (hS:∀c,S c->c<w.heap.size) (hb:S b) (hx:XP w b n) (hV:Env w) (hv:RepS (hide w S) w.heap.size l sl) :
  Calls prog 86 #[.pointer (some ⟨b,0,none⟩),.string ⟨#[113,117,111,116,101]⟩,sl] w (XRes S b none w):=by
 obtain ⟨o,len,cap,rfl,hln,hcp⟩:=Sp.slice (Sp.ofS hv)
 obtain ⟨W0,hW0,hst⟩:=zaw hS hb hx hV
 have HST:=zh hst
 have HW0:=zh hW0
 have hlq:=hln
 have hn1a:((len:Int)==1)=false:=by simp;omega
 have hn1b:¬len=1:=by omega
 clear hlq
 have HLV:=zh (hst.first (Sp.ofS hv))
 clear hst hW0 hv hS hb hx hV hln hcp
 go_enter func86,ntmps86
 go_upto_region 1 with fail
 rw[HW0.out]
 go_wp2_with (first | (go_at_call 30;refine (zaf _).mono ?_;rintro e' wN ⟨rfl,rfl⟩) | fail)
 exact ⟨rfl,HST.out.bad⟩
theorem zhj (x:Dat) (S:Nat->Prop) (b n:Nat) (sl:Value) (w:World) (r:Option (Dat × Nat)) (hr:r=some (Sy.const x,n)) (hS:∀c,S c->c<w.heap.size) (hb:S b) (hx:XP w b n) (hV:Env w) (hv:RepS (hide w S) w.heap.size [x] sl) :
  Calls prog 86 #[.pointer (some ⟨b,0,none⟩),.string ⟨#[113,117,111,116,101]⟩,sl] w (XRes S b r w):=by
 obtain ⟨o,len,cap,rfl,hln,hcp⟩:=Sp.slice (Sp.ofS hv)
 obtain ⟨W0,hW0,hst⟩:=zaw hS hb hx hV
 have HST:=zh hst
 have HW0:=zh hW0
 obtain rfl:len=1:=by rw[hln];rfl
 have HLV:=zh (hst.first (Sp.ofS hv))
 have HR:=zh hr
 clear hst hW0 hv hS hb hx hV hln hcp hr
 go_enter func86,ntmps86
 go_upto_region 1 with fail
 rw[HW0.out]
 go_upto_region 5 with (first | (go_at_call 30;refine (zah _).mono ?_;rintro e' wN ⟨⟨vN,rfl⟩,rfl⟩) | fail)
 refine zad (dr:=false) (S:=S) (b:=b) (H:=w.heap.size) 4 [] (fun j=>[n].getD j 0) [.row (some (x::[])),.elm (some (x)),.dat (some (x)),.dat ((some (x)).map Sy.const)] HST.out (by show zB _ _ 4 160=true;kernel_rfl) (by decide) (by decide) (by kernel_rfl) ?hops ?hcall ?hend
 case hops=>
  intro i o8 hi hip ho a8 w8 hdf jd ht8 jb ja
  match i,hi,hip with
  | 0,_,_=>cases ho;exact zac rfl (Sp.at ja 2 (by kernel_rfl) (HLV.out) (.inl HST.out.own) ht8)
  | 1,_,_=>cases ho;exact zas (k:=0) rfl (Sp.dep jb 0 19 (by kernel_rfl)) rfl (by decide)
  | 2,_,_=>cases ho;exact zal rfl (Sp.dep jb 1 20 (by kernel_rfl))
  | 3,_,_=>cases ho;exact zfb rfl (Sp.dep jb 2 21 (by kernel_rfl)) jd
  | i+4,hi,_=>exact absurd hi (by omega)
 case hcall=>
  intro j i o8 hj ho a8 w8 hdf jc ht8 jb jg ja
  simp at hj
 case hend=>
  intro a8 w8 hdf hsz jc ht8 hval ja
  refine fin_s (r:=r) jc (hval 3 _ 22 (by omega) rfl rfl) (fun x8 hx8=>?_) ((ja.at 6 (by kernel_rfl)).trans rfl) hdf rfl results86 fun w9 h9=>?_
  ·clear hval ja hdf hsz jc ht8
   cases hx8
   exact HR.out
  ·go_wp2_with fail
theorem zcF (l:List Dat) (hl:l.length≠2∧l.length≠3) (S:Nat->Prop) (b n:Nat) (sl:Value) (w:World) (hS:∀c,S c->c<w.heap.size) (hb:S b) (hx:XP w b n) (hV:Env w) (hv:RepS (hide w S) w.heap.size l sl) :
  Calls prog 86 #[.pointer (some ⟨b,0,none⟩),.string ⟨#[105,102]⟩,sl] w (XRes S b none w):=by
 obtain ⟨o,len,cap,rfl,hln,hcp⟩:=Sp.slice (Sp.ofS hv)
 obtain ⟨W0,hW0,hst⟩:=zaw hS hb hx hV
 have HST:=zh hst
 have HW0:=zh hW0
 have hlq:=hln
 obtain ⟨hl1,hl2⟩:=hl
 have hn2a:((len:Int)==2)=false:=by simp;omega
 have hn2b:¬len=2:=by omega
 have hn3a:((len:Int)==3)=false:=by simp;omega
 have hn3b:¬len=3:=by omega
 clear hlq
 have HLV:=zh (hst.first (Sp.ofS hv))
 clear hst hW0 hv hS hb hx hV hln hcp
 go_enter func86,ntmps86
 go_upto_region 1 with fail
 rw[HW0.out]
 go_wp2_with (first | (go_at_call 30;refine (zaf _).mono ?_;rintro e' wN ⟨rfl,rfl⟩) | fail)
 exact ⟨rfl,HST.out.bad⟩
theorem zjv {E:Dat->Sy.M Dat} (hE:EOk E) (x:Dat) (y:Dat) (z:Dat) (S:Nat->Prop) (b n:Nat) (sl:Value) (w:World) (r:Option (Dat × Nat)) (hr:Sy.bnd (Sy.all E [x,y,z]) (fun q=>Sy.ret (Sy.form Sy.ifB q)) n=some r) (hS:∀c,S c->c<w.heap.size) (hb:S b) (hx:XP w b n) (hV:Env w) (hv:RepS (hide w S) w.heap.size [x,y,z] sl) :
  Calls prog 86 #[.pointer (some ⟨b,0,none⟩),.string ⟨#[105,102]⟩,sl] w (XRes S b r w):=by
 obtain ⟨o,len,cap,rfl,hln,hcp⟩:=Sp.slice (Sp.ofS hv)
 obtain ⟨W0,hW0,hst⟩:=zaw hS hb hx hV
 have HST:=zh hst
 have HW0:=zh hW0
 obtain rfl:len=3:=by rw[hln];rfl
 have HLV:=zh (hst.first (Sp.ofS hv))
 have HE:=zh hE
 have HR:=zh hr
 clear hst hW0 hv hS hb hx hV hln hcp hE hr
 go_enter func86,ntmps86
 go_upto_region 1 with fail
 rw[HW0.out]
 obtain ⟨p1,hp1,hn1,hk⟩:=Sy.bnd_split HR.out
 have HC:=zh (zbr HE.out (S1 S w.heap.size) b n [x,y,z] _ W0 p1 hp1 HST.out.lt (.inl HST.out.own) HST.out.hx HST.out.hE (Sp.data HLV.out) (by simp))
 have HYL:=zh (show ∀ys m,p1=some (ys,m)->ys.length=3 from fun ys m h=>by subst h;exact Sy.all_len hp1)
 have HN:=zh hn1
 have HK:=zh hk
 clear hp1 hn1 hk
 match p1,HC,HN,HK,HYL with
 | none,HC,HN,HK,HYL=>
  have hrn:=HN.out rfl
  subst hrn
  go_wp2_with (first | (go_at_call 88;refine HC.out.mono ?_;rintro e' w3 ⟨rfl,ht3⟩) | (go_at_call 30;refine (zah _).mono ?_;rintro e' wN ⟨⟨vN,rfl⟩,rfl⟩) | fail)
  exact ⟨rfl,HST.out.bad' ht3⟩
 | some (ys,m),HC,HN,HK,HYL=>
  go_upto_region 11 with (first | (go_at_call 88;refine HC.out.mono ?_;rintro e' w3 ⟨v3,rfl,hg3,ht3,hx3⟩) | (go_at_call 30;refine (zah _).mono ?_;rintro e' wN ⟨⟨vN,rfl⟩,rfl⟩) | fail)
  have HST3:=zh (HST.out.next ht3 hx3)
  have HG3:=zh (show (Sp.row (some ys)).holds (S1 S w.heap.size) v3 w3 from Sp.ofS hg3.rep)
  have HRF:=zh (HK.out ys m rfl)
  have HYL2:=zh (show ys.length<=999999 from by rw[HYL.out ys m rfl];omega)
  clear hg3 ht3 hx3
  refine zad (dr:=false) (S:=S) (b:=b) (H:=w.heap.size) 2 [] (fun j=>[m].getD j 0) [.row (some (ys)),.dat ((some (ys)).map (Sy.form ⟨#[105,102]⟩))] HST3.out (by show zB _ _ 2 160=true;kernel_rfl) (by decide) (by decide) (by kernel_rfl) ?hops ?hcall ?hend
  case hops=>
   intro i o8 hi hip ho a8 w8 hdf jd ht8 jb ja
   match i,hi,hip with
   | 0,_,_=>cases ho;exact zac rfl (Sp.at ja 2 (by kernel_rfl) (HG3.out) (.inl HST3.out.own) ht8)
   | 1,_,_=>cases ho;exact za9 rfl (Sp.dep jb 0 41 (by kernel_rfl)) (by decide) (fun l hl=>by obtain rfl:=Option.some.inj hl;exact HYL2.out) jd
   | i+2,hi,_=>exact absurd hi (by omega)
  case hcall=>
   intro j i o8 hj ho a8 w8 hdf jc ht8 jb jg ja
   simp at hj
  case hend=>
   intro a8 w8 hdf hsz jc ht8 hval ja
   refine fin_s (r:=r) jc (hval 1 _ 42 (by omega) rfl rfl) (fun x8 hx8=>?_) ((ja.at 6 (by kernel_rfl)).trans rfl) hdf rfl results86 fun w9 h9=>?_
   ·clear hval ja hdf hsz jc ht8
    cases hx8
    exact Sy.ret_split HRF.out
   ·go_wp2_with fail
theorem zkc {E:Dat->Sy.M Dat} (hE:EOk E) (x:Dat) (y:Dat) (S:Nat->Prop) (b n:Nat) (sl:Value) (w:World) (r:Option (Dat × Nat)) (hr:Sy.bnd (Sy.all E [x,y]) (fun q=>Sy.ret (Sy.form Sy.ifB (q++[Sy.void]))) n=some r) (hS:∀c,S c->c<w.heap.size) (hb:S b) (hx:XP w b n) (hV:Env w) (hv:RepS (hide w S) w.heap.size [x,y] sl) :
  Calls prog 86 #[.pointer (some ⟨b,0,none⟩),.string ⟨#[105,102]⟩,sl] w (XRes S b r w):=by
 obtain ⟨o,len,cap,rfl,hln,hcp⟩:=Sp.slice (Sp.ofS hv)
 obtain ⟨W0,hW0,hst⟩:=zaw hS hb hx hV
 have HST:=zh hst
 have HW0:=zh hW0
 obtain rfl:len=2:=by rw[hln];rfl
 have HLV:=zh (hst.first (Sp.ofS hv))
 have HE:=zh hE
 have HR:=zh hr
 clear hst hW0 hv hS hb hx hV hln hcp hE hr
 go_enter func86,ntmps86
 go_upto_region 1 with fail
 rw[HW0.out]
 obtain ⟨p1,hp1,hn1,hk⟩:=Sy.bnd_split HR.out
 have HC:=zh (zbr HE.out (S1 S w.heap.size) b n [x,y] _ W0 p1 hp1 HST.out.lt (.inl HST.out.own) HST.out.hx HST.out.hE (Sp.data HLV.out) (by simp))
 have HYL:=zh (show ∀ys m,p1=some (ys,m)->ys.length=2 from fun ys m h=>by subst h;exact Sy.all_len hp1)
 have HN:=zh hn1
 have HK:=zh hk
 clear hp1 hn1 hk
 match p1,HC,HN,HK,HYL with
 | none,HC,HN,HK,HYL=>
  have hrn:=HN.out rfl
  subst hrn
  go_wp2_with (first | (go_at_call 88;refine HC.out.mono ?_;rintro e' w3 ⟨rfl,ht3⟩) | (go_at_call 30;refine (zah _).mono ?_;rintro e' wN ⟨⟨vN,rfl⟩,rfl⟩) | fail)
  exact ⟨rfl,HST.out.bad' ht3⟩
 | some (ys,m),HC,HN,HK,HYL=>
  go_upto_region 10 with (first | (go_at_call 88;refine HC.out.mono ?_;rintro e' w3 ⟨v3,rfl,hg3,ht3,hx3⟩) | (go_at_call 30;refine (zah _).mono ?_;rintro e' wN ⟨⟨vN,rfl⟩,rfl⟩) | fail)
  obtain ⟨o3,len3,cap3,rfl,_,hl3⟩:=GrownS.form hg3
  have HYL2:=zh (show ys.length=2 from HYL.out ys m rfl)
  obtain rfl:len3=2:=by rw[hl3];exact HYL2.out
  have HSL:=zh (sr_lt hg3 qzL)
  have HG3:=zh hg3
  have HRF:=zh (HK.out ys m rfl)
  have HT3:=zh ht3
  have HX3:=zh hx3
  have HBW:=zh (HST.out.lt b (.inl HST.out.own))
  clear hg3 hl3 ht3 hx3
  go_upto_region 11 with (first | (go_at_call 106;refine (zga (SR (S1 S w.heap.size) (.slice o3 2 cap3)) _ HSL.out).mono ?_;rintro e' w4 ⟨v4,rfl,hr4,hb4⟩;obtain ⟨k4,m4,d4,s4,o4,len4,cap4,rfl⟩:=zae hr4.unhide;have HG4:=zh ((HG3.out.below hb4).below (Below.one w4 (.cells #[.int .i64 k4,.int .i64 m4,.int .i64 d4,.string s4,.slice o4 len4 cap4] 26)));have HK4:=zh (zax (fun c hc=>qzM (HSL.out c hc) hb4.size) hr4)) | (at_builtin;go_loud (refine zaj rfl fun K hK=>zav (S:=(S1 S w.heap.size)) (.tmp 37) (.tmp 39) rfl wN.heap.size (.slice o3 2 cap3) (.slice (some ⟨w4.heap.size,0,none⟩) 1 1) ys [Sy.void] rfl HG4 rfl HK4 (by have:=HYL2.out;simp;omega) fun o9 len9 cap9 w9 h9 h10 h11 h12=>hK _ _ ?_)) | fail)
  have je:Below w4.heap.size w4 (w4.alloc (.cells #[.int .i64 k4,.int .i64 m4,.int .i64 d4,.string s4,.slice o4 len4 cap4] 26)):=Below.one _ _
  have ht9:Turned (fun c=>c=b) wN w9:=((HT3.out.next (Turned.of_below hb4)).next (Turned.of_below je)).seq h10.out
  have hx9:XP w9 b m:=(h10.out.block b HBW.out).trans ((HX3.out.keepB hb4).keepB je)
  have HST9:=zh (HST.out.next ht9 hx9)
  have HG9:=zh (show (Sp.row (some (ys++[Sy.void]))).holds (S1 S w.heap.size) (.slice o9 len9 cap9) w9 from Sp.ofS h9.out.rep)
  clear je ht9 hx9 h9 h10 h11 h12 hr4 hb4 HG4 HK4
  refine zad (dr:=false) (S:=S) (b:=b) (H:=w.heap.size) 2 [] (fun j=>[m].getD j 0) [.row (some (ys++[Sy.void])),.dat ((some (ys++[Sy.void])).map (Sy.form ⟨#[105,102]⟩))] HST9.out (by show zB _ _ 2 160=true;kernel_rfl) (by decide) (by decide) (by kernel_rfl) ?hops ?hcall ?hend
  case hops=>
   intro i o8 hi hip ho a8 w8 hdf jd ht8 jb ja
   match i,hi,hip with
   | 0,_,_=>cases ho;exact zac rfl (Sp.at ja 2 (by kernel_rfl) (HG9.out) (.inl HST9.out.own) ht8)
   | 1,_,_=>cases ho;exact za9 rfl (Sp.dep jb 0 41 (by kernel_rfl)) (by decide) (fun l hl=>by obtain rfl:=Option.some.inj hl;have:=HYL2.out;simp;omega) jd
   | i+2,hi,_=>exact absurd hi (by omega)
  case hcall=>
   intro j i o8 hj ho a8 w8 hdf jc ht8 jb jg ja
   simp at hj
  case hend=>
   intro a8 w8 hdf hsz jc ht8 hval ja
   refine fin_s (r:=r) jc (hval 1 _ 42 (by omega) rfl rfl) (fun x8 hx8=>?_) ((ja.at 6 (by kernel_rfl)).trans rfl) hdf rfl results86 fun w9 h9=>?_
   ·clear hval ja hdf hsz jc ht8
    cases hx8
    exact Sy.ret_split HRF.out
   ·go_wp2_with fail
theorem zcb (l:List Dat) (hl:l.length<2) (S:Nat->Prop) (b n:Nat) (sl:Value) (w:World) (hS:∀c,S c->c<w.heap.size) (hb:S b) (hx:XP w b n) (hV:Env w) (hv:RepS (hide w S) w.heap.size l sl) :
  Calls prog 86 #[.pointer (some ⟨b,0,none⟩),.string ⟨#[108,97,109,98,100,97]⟩,sl] w (XRes S b none w):=by
 obtain ⟨o,len,cap,rfl,hln,hcp⟩:=Sp.slice (Sp.ofS hv)
 obtain ⟨W0,hW0,hst⟩:=zaw hS hb hx hV
 have HST:=zh hst
 have HW0:=zh hW0
 have hlq:=hln
 have hg1a:decide ((len:Int) > 1)=false:=by simp;omega
 have hg1b:¬1<len:=by omega
 have hg1c:¬(1:Int)<len:=by omega
 clear hlq
 have HLV:=zh (hst.first (Sp.ofS hv))
 clear hst hW0 hv hS hb hx hV hln hcp
 go_enter func86,ntmps86
 go_upto_region 1 with fail
 rw[HW0.out]
 go_wp2_with (first | (go_at_call 30;refine (zaf _).mono ?_;rintro e' wN ⟨rfl,rfl⟩) | fail)
 exact ⟨rfl,HST.out.bad⟩
theorem zf4 {L:Dat->List Dat->Sy.M Dat} (hL:LOk L) (f c:Dat) (t:List Dat) (S:Nat->Prop) (b n:Nat) (sl:Value) (w:World) (r:Option (Dat × Nat)) (hr:L f (c::t) n=some r) (hS:∀c,S c->c<w.heap.size) (hb:S b) (hx:XP w b n) (hV:Env w) (hv:RepS (hide w S) w.heap.size (f::c::t) sl) :
  Calls prog 86 #[.pointer (some ⟨b,0,none⟩),.string ⟨#[108,97,109,98,100,97]⟩,sl] w (XRes S b r w):=by
 obtain ⟨o,len,cap,rfl,hln,hcp⟩:=Sp.slice (Sp.ofS hv)
 obtain ⟨W0,hW0,hst⟩:=zaw hS hb hx hV
 have HST:=zh hst
 have HW0:=zh hW0
 have hge:2<=len:=by rw[hln];simp
 have hg1a:decide ((len:Int) > 1)=true:=by simp;omega
 have hg1b:1<len:=by omega
 have hg1c:(1:Int)<len:=by omega
 clear hge
 have HLV:=zh (hst.first (Sp.ofS hv))
 have HL:=zh hL
 have HR:=zh hr
 clear hst hW0 hv hS hb hx hV hln hcp hL hr
 go_enter func86,ntmps86
 go_upto_region 1 with fail
 rw[HW0.out]
 go_upto_region 14 with (first | (go_at_call 30;refine (zah _).mono ?_;rintro e' wN ⟨⟨vN,rfl⟩,rfl⟩) | fail)
 obtain ⟨p1,hp1⟩:∃p1,r=p1:=⟨_,rfl⟩
 have HP1:=zh (show L f (c::t) n=some p1 from by rw[<-hp1];exact HR.out)
 have jh:=zh (show p1=none->r=none from fun h=>by rw[hp1];exact h)
 have HRF:=zh hp1
 clear hp1
 refine zad (dr:=true) (S:=S) (b:=b) (H:=w.heap.size) 7 [6] (fun j=>[n,cnt p1].getD j 0) [.val (.pointer (some ⟨b,0,none⟩)),.row (some (f::c::t)),.elm (some (f)),.dat (some (f)),.row (some (f::c::t)),.row (some (c::t)),.dat (p1.map (·.1))] HST.out (by show zB _ _ 7 160=true;kernel_rfl) (by decide) (by decide) (by kernel_rfl) ?hops ?hcall ?hend
 case hops=>
  intro i o8 hi hip ho a8 w8 hdf jd ht8 jb ja
  match i,hi,hip with
  | 0,_,_=>cases ho;exact zac rfl (Sp.at ja 0 (by kernel_rfl) (rfl) (.inl HST.out.own) ht8)
  | 1,_,_=>cases ho;exact zac rfl (Sp.at ja 2 (by kernel_rfl) (HLV.out) (.inl HST.out.own) ht8)
  | 2,_,_=>cases ho;exact zas (k:=0) rfl (Sp.dep jb 1 49 (by kernel_rfl)) rfl (by decide)
  | 3,_,_=>cases ho;exact zal rfl (Sp.dep jb 2 50 (by kernel_rfl))
  | 4,_,_=>cases ho;exact zac rfl (Sp.at ja 2 (by kernel_rfl) (HLV.out) (.inl HST.out.own) ht8)
  | 5,_,_=>cases ho;exact zaD (k:=1) rfl (Sp.dep jb 4 52 (by kernel_rfl)) (by decide) (by simp) (by decide)
  | 6,_,h=>exact absurd (by decide) h
  | i+7,hi,_=>exact absurd hi (by omega)
 case hcall=>
  intro j i o8 hj ho a8 w8 hdf jc ht8 jb jg ja
  match j,hj with
  | 0,hj=>
   cases hj;cases ho
   have hv0:a8.tmps.getD 48 undef=.pointer (some ⟨b,0,none⟩):=(Sp.dep jb 0 48 (by kernel_rfl))
   refine zaI (p:=p1) (vals:=#[.pointer (some ⟨b,0,none⟩),a8.tmps.getD 51 undef,a8.tmps.getD 53 undef]) rfl (by simp only[List.map_toArray,List.map_cons,List.map_nil];rw[<-hv0];rfl) (fun _ _=>rfl) (HL.out (S1 S w.heap.size) b _ f _ (c::t) _ w8 p1 HP1.out jc.lt (.inl jc.own) jc.hx jc.hE (Sp.datum (Sp.dep jb 3 51 (by kernel_rfl))) (Sp.data (Sp.dep jb 5 53 (by kernel_rfl)))) fun hp w9 ht9=>?_
   have hrn:=jh.out hp
   subst hrn
   exact ⟨hdf,jc.bad' ht9⟩
  | _+1,hj=>simp at hj
 case hend=>
  intro a8 w8 hdf hsz jc ht8 hval ja
  refine fin_s (r:=r) jc (hval 6 _ 54 (by omega) rfl rfl) (fun x8 hx8=>?_) ((ja.at 6 (by kernel_rfl)).trans rfl) hdf rfl results86 fun w9 h9=>?_
  ·clear hval ja hdf hsz jc ht8
   rcases p1 with _ | ⟨y1,n1⟩
   ·simp at hx8
   cases hx8
   exact HRF.out
  ·go_wp2_with fail
theorem zca (l:List Dat) (hl:l.length≠2) (S:Nat->Prop) (b n:Nat) (sl:Value) (w:World) (hS:∀c,S c->c<w.heap.size) (hb:S b) (hx:XP w b n) (hV:Env w) (hv:RepS (hide w S) w.heap.size l sl) :
  Calls prog 86 #[.pointer (some ⟨b,0,none⟩),.string ⟨#[115,101,116,33]⟩,sl] w (XRes S b none w):=by
 obtain ⟨o,len,cap,rfl,hln,hcp⟩:=Sp.slice (Sp.ofS hv)
 obtain ⟨W0,hW0,hst⟩:=zaw hS hb hx hV
 have HST:=zh hst
 have HW0:=zh hW0
 have hlq:=hln
 have hn2a:((len:Int)==2)=false:=by simp;omega
 have hn2b:¬len=2:=by omega
 clear hlq
 have HLV:=zh (hst.first (Sp.ofS hv))
 clear hst hW0 hv hS hb hx hV hln hcp
 go_enter func86,ntmps86
 go_upto_region 1 with fail
 rw[HW0.out]
 go_wp2_with (first | (go_at_call 30;refine (zaf _).mono ?_;rintro e' wN ⟨rfl,rfl⟩) | fail)
 exact ⟨rfl,HST.out.bad⟩
theorem zhp (x y:Dat) (hvx:Sy.isVar x=false) (S:Nat->Prop) (b n:Nat) (sl:Value) (w:World) (hS:∀c,S c->c<w.heap.size) (hb:S b) (hx:XP w b n) (hV:Env w) (hv:RepS (hide w S) w.heap.size [x,y] sl) :
  Calls prog 86 #[.pointer (some ⟨b,0,none⟩),.string ⟨#[115,101,116,33]⟩,sl] w (XRes S b none w):=by
 obtain ⟨o,len,cap,rfl,hln,hcp⟩:=Sp.slice (Sp.ofS hv)
 obtain ⟨W0,hW0,hst⟩:=zaw hS hb hx hV
 have HST:=zh hst
 have HW0:=zh hW0
 obtain rfl:len=2:=by rw[hln];rfl
 obtain ⟨c1,off1,rfl,hel⟩:=Sp.nth (j:=0) (hst.first (Sp.ofS hv)) rfl
 obtain ⟨k3,m3,d3,st3,o3,len3,cap3,hxr,e0,e1,e2,e3,e4,el⟩:=Sp.cells hel
 simp only[Nat.zero_mul,Nat.add_zero] at e0 e1 e2 e3 e4
 have HVA:=zh (fun w=>zaP (w:=w) x _ hxr)
 rw[hvx] at HVA
 clear hel hxr
 have HLV:=zh (hst.first (Sp.ofS hv))
 clear hst hW0 hv hS hb hx hV hln hcp
 go_enter func86,ntmps86
 go_upto_region 1 with fail
 rw[HW0.out]
 go_wp2_with (first | (go_at_call 72;refine (HVA.out _).mono ?_;rintro e' w2 ⟨rfl,hb2⟩) | (go_at_call 30;refine (zaf _).mono ?_;rintro e' wN ⟨rfl,rfl⟩) | fail)
 exact ⟨rfl,HST.out.bad' (Turned.of_below hb2)⟩
theorem ziU {E:Dat->Sy.M Dat} (hE:EOk E) (x y:Dat) (hvx:Sy.isVar x=true) (S:Nat->Prop) (b n:Nat) (sl:Value) (w:World) (r:Option (Dat × Nat)) (hr:Sy.bnd (E y) (fun v=>Sy.ret (Sy.form Sy.setB [x,v])) n=some r) (hS:∀c,S c->c<w.heap.size) (hb:S b) (hx:XP w b n) (hV:Env w) (hv:RepS (hide w S) w.heap.size [x,y] sl) :
  Calls prog 86 #[.pointer (some ⟨b,0,none⟩),.string ⟨#[115,101,116,33]⟩,sl] w (XRes S b r w):=by
 obtain ⟨o,len,cap,rfl,hln,hcp⟩:=Sp.slice (Sp.ofS hv)
 obtain ⟨W0,hW0,hst⟩:=zaw hS hb hx hV
 have HST:=zh hst
 have HW0:=zh hW0
 obtain rfl:len=2:=by rw[hln];rfl
 obtain ⟨c1,off1,rfl,hel⟩:=Sp.nth (j:=0) (hst.first (Sp.ofS hv)) rfl
 obtain ⟨k3,m3,d3,st3,o3,len3,cap3,hxr,e0,e1,e2,e3,e4,el⟩:=Sp.cells hel
 simp only[Nat.zero_mul,Nat.add_zero] at e0 e1 e2 e3 e4
 have HVA:=zh (fun w=>zaP (w:=w) x _ hxr)
 rw[hvx] at HVA
 clear hel hxr
 have HLV:=zh (hst.first (Sp.ofS hv))
 have HE:=zh hE
 have HR:=zh hr
 clear hst hW0 hv hS hb hx hV hln hcp hE hr
 go_enter func86,ntmps86
 go_upto_region 1 with fail
 rw[HW0.out]
 go_upto_region 17 with (first | (go_at_call 72;refine (HVA.out _).mono ?_;rintro e' w2 ⟨rfl,hb2⟩) | (go_at_call 30;refine (zah _).mono ?_;rintro e' wN ⟨⟨vN,rfl⟩,rfl⟩) | fail)
 have jj:=zh (HST.out.below hb2)
 have HL2:=zh (Sp.below HLV.out hb2)
 clear hb2 e0 e1 e2 e3 e4 el
 obtain ⟨p1,hp1,hn1,hk⟩:=Sy.bnd_split HR.out
 have HP1:=zh hp1
 have jh:=zh hn1
 have HRF:=zh hk
 clear hp1 hn1 hk
 refine zad (dr:=true) (S:=S) (b:=b) (H:=w.heap.size) 10 [7] (fun j=>[n,cnt p1].getD j 0) [.row (some (x::y::[])),.elm (some (x)),.dat (some (x)),.val (.pointer (some ⟨b,0,none⟩)),.row (some (x::y::[])),.elm (some (y)),.dat (some (y)),.dat (p1.map (·.1)),.row ((some (x)).bind fun u0_74=>(p1.map (·.1)).bind fun u1_74=>some [u0_74,u1_74]),.dat (((some (x)).bind fun u0_74=>(p1.map (·.1)).bind fun u1_74=>some [u0_74,u1_74]).map (Sy.form ⟨#[115,101,116,33]⟩))] jj.out (by show zB _ _ 10 160=true;kernel_rfl) (by decide) (by decide) (by kernel_rfl) ?hops ?hcall ?hend
 case hops=>
  intro i o8 hi hip ho a8 w8 hdf jd ht8 jb ja
  match i,hi,hip with
  | 0,_,_=>cases ho;exact zac rfl (Sp.at ja 2 (by kernel_rfl) (HL2.out) (.inl jj.out.own) ht8)
  | 1,_,_=>cases ho;exact zas (k:=0) rfl (Sp.dep jb 0 66 (by kernel_rfl)) rfl (by decide)
  | 2,_,_=>cases ho;exact zal rfl (Sp.dep jb 1 67 (by kernel_rfl))
  | 3,_,_=>cases ho;exact zac rfl (Sp.at ja 0 (by kernel_rfl) (rfl) (.inl jj.out.own) ht8)
  | 4,_,_=>cases ho;exact zac rfl (Sp.at ja 2 (by kernel_rfl) (HL2.out) (.inl jj.out.own) ht8)
  | 5,_,_=>cases ho;exact zas (k:=1) rfl (Sp.dep jb 4 70 (by kernel_rfl)) rfl (by decide)
  | 6,_,_=>cases ho;exact zal rfl (Sp.dep jb 5 71 (by kernel_rfl))
  | 7,_,h=>exact absurd (by decide) h
  | 8,_,_=>cases ho;exact zdp rfl (Sp.dep jb 2 68 (by kernel_rfl)) (Sp.dep jb 7 73 (by kernel_rfl)) jd
  | 9,_,_=>cases ho;exact za9 rfl (Sp.dep jb 8 74 (by kernel_rfl)) (by decide) (rowlen2) jd
  | i+10,hi,_=>exact absurd hi (by omega)
 case hcall=>
  intro j i o8 hj ho a8 w8 hdf jc ht8 jb jg ja
  match j,hj with
  | 0,hj=>
   cases hj;cases ho
   refine zaN (p:=p1) rfl (Sp.dep jb 3 69 (by kernel_rfl)) (fun _ _=>rfl) (HE.out (S1 S w.heap.size) b _ y _ w8 p1 HP1.out jc.lt (.inl jc.own) jc.hx jc.hE (Sp.datum (Sp.dep jb 6 72 (by kernel_rfl)))) fun hp w9 ht9=>?_
   cases jh.out hp;exact ⟨hdf,jc.bad' ht9⟩
  | _+1,hj=>simp at hj
 case hend=>
  intro a8 w8 hdf hsz jc ht8 hval ja
  refine fin_s (r:=r) jc (hval 9 _ 75 (by omega) rfl rfl) (fun x8 hx8=>?_) ((ja.at 6 (by kernel_rfl)).trans rfl) hdf rfl results86 fun w9 h9=>?_
  ·clear hval ja hdf hsz jc ht8
   rcases p1 with _ | ⟨y1,n1⟩
   ·simp at hx8
   cases hx8
   exact Sy.ret_split (HRF.out _ _ rfl)
  ·go_wp2_with fail
theorem zg4 {E:Dat->Sy.M Dat} (hE:EOk E) (l:List Dat) (hl:l.length<=100000) (S:Nat->Prop) (b n:Nat) (sl:Value) (w:World) (r:Option (Dat × Nat)) (hr:Sy.begin E l n=some r) (hS:∀c,S c->c<w.heap.size) (hb:S b) (hx:XP w b n) (hV:Env w) (hv:RepS (hide w S) w.heap.size l sl) :
  Calls prog 86 #[.pointer (some ⟨b,0,none⟩),.string ⟨#[98,101,103,105,110]⟩,sl] w (XRes S b r w):=by
 obtain ⟨o,len,cap,rfl,hln,hcp⟩:=Sp.slice (Sp.ofS hv)
 obtain ⟨W0,hW0,hst⟩:=zaw hS hb hx hV
 have HST:=zh hst
 have HW0:=zh hW0
 have HLL:=zh hl
 clear hl
 have HLV:=zh (hst.first (Sp.ofS hv))
 have HE:=zh hE
 have HR:=zh hr
 clear hst hW0 hv hS hb hx hV hln hcp hE hr
 go_enter func86,ntmps86
 go_upto_region 1 with fail
 rw[HW0.out]
 go_upto_region 19 with fail
 obtain ⟨p1,hp1⟩:∃p1,r=p1:=⟨_,rfl⟩
 have HP1:=zh (show Sy.begin E l n=some p1 from by rw[<-hp1];exact HR.out)
 have jh:=zh (show p1=none->r=none from fun h=>by rw[hp1];exact h)
 have HRF:=zh hp1
 clear hp1
 refine zad (dr:=false) (S:=S) (b:=b) (H:=w.heap.size) 3 [2] (fun j=>[n,cnt p1].getD j 0) [.val (.pointer (some ⟨b,0,none⟩)),.row (some (l)),.dat (p1.map (·.1))] HST.out (by show zB _ _ 3 160=true;kernel_rfl) (by decide) (by decide) (by kernel_rfl) ?hops ?hcall ?hend
 case hops=>
  intro i o8 hi hip ho a8 w8 hdf jd ht8 jb ja
  match i,hi,hip with
  | 0,_,_=>cases ho;exact zac rfl (Sp.at ja 0 (by kernel_rfl) (rfl) (.inl HST.out.own) ht8)
  | 1,_,_=>cases ho;exact zac rfl (Sp.at ja 2 (by kernel_rfl) (HLV.out) (.inl HST.out.own) ht8)
  | 2,_,h=>exact absurd (by decide) h
  | i+3,hi,_=>exact absurd hi (by omega)
 case hcall=>
  intro j i o8 hj ho a8 w8 hdf jc ht8 jb jg ja
  match j,hj with
  | 0,hj=>
   cases hj;cases ho
   refine zaN (p:=p1) rfl (Sp.dep jb 0 78 (by kernel_rfl)) (fun _ _=>rfl) (zaU HE.out (S1 S w.heap.size) b _ l _ w8 p1 HP1.out jc.lt (.inl jc.own) jc.hx jc.hE (Sp.data (Sp.dep jb 1 79 (by kernel_rfl))) HLL.out) fun hp w9 ht9=>?_
   cases jh.out hp;exact ⟨hdf,jc.bad' ht9⟩
  | _+1,hj=>simp at hj
 case hend=>
  intro a8 w8 hdf hsz jc ht8 hval ja
  refine fin_s (r:=r) jc (hval 2 _ 80 (by omega) rfl rfl) (fun x8 hx8=>?_) ((ja.at 6 (by kernel_rfl)).trans rfl) hdf rfl results86 fun w9 h9=>?_
  ·clear hval ja hdf hsz jc ht8
   rcases p1 with _ | ⟨y1,n1⟩
   ·simp at hx8
   cases hx8
   exact HRF.out
  ·go_wp2_with fail
theorem zdm (l:List Dat) (hl:l.length<2) (S:Nat->Prop) (b n:Nat) (sl:Value) (w:World) (hS:∀c,S c->c<w.heap.size) (hb:S b) (hx:XP w b n) (hV:Env w) (hv:RepS (hide w S) w.heap.size l sl) :
  Calls prog 86 #[.pointer (some ⟨b,0,none⟩),.string ⟨#[108,101,116,114,101,99]⟩,sl] w (XRes S b none w):=by
 obtain ⟨o,len,cap,rfl,hln,hcp⟩:=Sp.slice (Sp.ofS hv)
 obtain ⟨W0,hW0,hst⟩:=zaw hS hb hx hV
 have HST:=zh hst
 have HW0:=zh hW0
 have hlq:=hln
 have hg1a:decide ((len:Int) > 1)=false:=by simp;omega
 have hg1b:¬1<len:=by omega
 have hg1c:¬(1:Int)<len:=by omega
 clear hlq
 have HLV:=zh (hst.first (Sp.ofS hv))
 clear hst hW0 hv hS hb hx hV hln hcp
 go_enter func86,ntmps86
 go_upto_region 1 with fail
 rw[HW0.out]
 go_wp2_with (first | (go_at_call 30;refine (zaf _).mono ?_;rintro e' wN ⟨rfl,rfl⟩) | fail)
 exact ⟨rfl,HST.out.bad⟩
theorem ze2 (x c:Dat) (t:List Dat) (S:Nat->Prop) (b n:Nat) (sl:Value) (w:World) (hbi:Sy.binds x=none) (hsm:∀y∈x::c::t,Sy.small y=true) (_htl:t.length<=99998) (hS:∀c,S c->c<w.heap.size) (hb:S b) (hx:XP w b n) (hV:Env w) (hv:RepS (hide w S) w.heap.size (x::c::t) sl) :
  Calls prog 86 #[.pointer (some ⟨b,0,none⟩),.string ⟨#[108,101,116,114,101,99]⟩,sl] w (XRes S b none w):=by
 obtain ⟨o,len,cap,rfl,hln,hcp⟩:=Sp.slice (Sp.ofS hv)
 obtain ⟨W0,hW0,hst⟩:=zaw hS hb hx hV
 have HST:=zh hst
 have HW0:=zh hW0
 have hge:2<=len:=by rw[hln];simp
 have hg1a:decide ((len:Int) > 1)=true:=by simp;omega
 have hg1b:1<len:=by omega
 have hg1c:(1:Int)<len:=by omega
 clear hge
 obtain ⟨c1,off1,rfl,hel⟩:=Sp.nth (j:=0) (hst.first (Sp.ofS hv)) rfl
 obtain ⟨k3,m3,d3,st3,o3,len3,cap3,hxr,e0,e1,e2,e3,e4,el⟩:=Sp.cells hel
 simp only[Nat.zero_mul,Nat.add_zero] at e0 e1 e2 e3 e4
 have HC:=zh (hst.bindings_none x _ hbi hxr (hsm x (by simp)))
 clear hel hxr
 have HLV:=zh (hst.first (Sp.ofS hv))
 clear hst hW0 hv hS hb hx hV hln hcp
 go_enter func86,ntmps86
 go_upto_region 1 with fail
 rw[HW0.out]
 go_wp2_with (first | (go_at_call 76;refine HC.out.mono ?_;rintro e' w1 ⟨vn,vv,rfl,hb1⟩) | (go_at_call 30;refine (zah _).mono ?_;rintro e' wN ⟨⟨vN,rfl⟩,rfl⟩) | (go_at_call 30;refine (zaf _).mono ?_;rintro e' wN ⟨rfl,rfl⟩) | fail)
 exact ⟨rfl,HST.out.bad' (Turned.of_below hb1)⟩
theorem zey (x c:Dat) (t:List Dat) (ns vs:List Dat) (S:Nat->Prop) (b n:Nat) (sl:Value) (w:World) (hbi:Sy.binds x=some (ns,vs)) (hdi:Sy.distinct ns=false) (hsm:∀y∈x::c::t,Sy.small y=true) (_htl:t.length<=99998) (hS:∀c,S c->c<w.heap.size) (hb:S b) (hx:XP w b n) (hV:Env w) (hv:RepS (hide w S) w.heap.size (x::c::t) sl) :
  Calls prog 86 #[.pointer (some ⟨b,0,none⟩),.string ⟨#[108,101,116,114,101,99]⟩,sl] w (XRes S b none w):=by
 obtain ⟨o,len,cap,rfl,hln,hcp⟩:=Sp.slice (Sp.ofS hv)
 obtain ⟨W0,hW0,hst⟩:=zaw hS hb hx hV
 have HST:=zh hst
 have HW0:=zh hW0
 have hge:2<=len:=by rw[hln];simp
 have hg1a:decide ((len:Int) > 1)=true:=by simp;omega
 have hg1b:1<len:=by omega
 have hg1c:(1:Int)<len:=by omega
 clear hge
 obtain ⟨c1,off1,rfl,hel⟩:=Sp.nth (j:=0) (hst.first (Sp.ofS hv)) rfl
 obtain ⟨k3,m3,d3,st3,o3,len3,cap3,hxr,e0,e1,e2,e3,e4,el⟩:=Sp.cells hel
 simp only[Nat.zero_mul,Nat.add_zero] at e0 e1 e2 e3 e4
 have HC:=zh (hst.bindings_some x _ _ _ hbi hxr (hsm x (by simp)))
 have HLE:=zh (show ns.length=vs.length∧ns.length<=99999 from by have h1:=Sy.binds_len hbi;have h2:=(Sy.small_iff.1 (hsm x (by simp))).2;have h3:=hbi;unfold Sy.binds at h3;split at h3;(have:=Sy.bindsL_len h3;omega);(cases h3))
 clear hel hxr
 have HLV:=zh (hst.first (Sp.ofS hv))
 clear hst hW0 hv hS hb hx hV hln hcp
 go_enter func86,ntmps86
 go_upto_region 1 with fail
 rw[HW0.out]
 go_upto_region 24 with (first | (go_at_call 76;refine HC.out.mono ?_;rintro e' w1 ⟨on,lenn,capn,ov,lenv,capv,rfl,hg1,hg2,hl1,hl2,hb1⟩;have HG1:=zh hg1;have HG2:=zh hg2;have HB1:=zh hb1;clear hg1 hg2 hl1 hl2 hb1) | (go_at_call 30;refine (zah _).mono ?_;rintro e' wN ⟨⟨vN,rfl⟩,rfl⟩) | fail)
 have HDI:=zh ((HST.out.below HB1.out).distinct ns _ HG1.out (by have:=HLE.out;omega))
 rw[hdi] at HDI
 go_wp2_with (first | (go_at_call 49;refine HDI.out.mono ?_;rintro e' w2 ⟨rfl,hb2⟩) | (go_at_call 30;refine (zaf _).mono ?_;rintro e' wN ⟨rfl,rfl⟩) | fail)
 exact ⟨rfl,HST.out.bad' ((Turned.of_below HB1.out).next (Turned.of_below hb2))⟩
theorem zki {E:Dat->Sy.M Dat} {L:Dat->List Dat->Sy.M Dat} (hE:EOk E) (hL:LOk L) (x c:Dat) (t:List Dat) (ns vs:List Dat) (S:Nat->Prop) (b n:Nat) (sl:Value) (w:World) (hbi:Sy.binds x=some (ns,vs)) (hdi:Sy.distinct ns=true) (hsm:∀y∈x::c::t,Sy.small y=true) (htl:t.length<=99998) (r:Option (Dat × Nat)) (hr:Sy.bnd (Sy.all E vs) (fun q=>Sy.bnd (Sy.body E L (c::t)) fun y=>Sy.ret (Sy.form Sy.letrecB [Sy.pairs ns q,y])) n=some r) (hS:∀c,S c->c<w.heap.size) (hb:S b) (hx:XP w b n) (hV:Env w) (hv:RepS (hide w S) w.heap.size (x::c::t) sl) :
  Calls prog 86 #[.pointer (some ⟨b,0,none⟩),.string ⟨#[108,101,116,114,101,99]⟩,sl] w (XRes S b r w):=by
 obtain ⟨o,len,cap,rfl,hln,hcp⟩:=Sp.slice (Sp.ofS hv)
 obtain ⟨W0,hW0,hst⟩:=zaw hS hb hx hV
 have HST:=zh hst
 have HW0:=zh hW0
 have hge:2<=len:=by rw[hln];simp
 have hg1a:decide ((len:Int) > 1)=true:=by simp;omega
 have hg1b:1<len:=by omega
 have hg1c:(1:Int)<len:=by omega
 clear hge
 obtain ⟨c1,off1,rfl,hel⟩:=Sp.nth (j:=0) (hst.first (Sp.ofS hv)) rfl
 obtain ⟨k3,m3,d3,st3,o3,len3,cap3,hxr,e0,e1,e2,e3,e4,el⟩:=Sp.cells hel
 simp only[Nat.zero_mul,Nat.add_zero] at e0 e1 e2 e3 e4
 have HC:=zh (hst.bindings_some x _ _ _ hbi hxr (hsm x (by simp)))
 have HLE:=zh (show ns.length=vs.length∧ns.length<=99999 from by have h1:=Sy.binds_len hbi;have h2:=(Sy.small_iff.1 (hsm x (by simp))).2;have h3:=hbi;unfold Sy.binds at h3;split at h3;(have:=Sy.bindsL_len h3;omega);(cases h3))
 clear hel hxr
 have HLV:=zh (hst.first (Sp.ofS hv))
 have HE:=zh hE
 have HL:=zh hL
 have HR:=zh hr
 have HSM:=zh hsm
 have HTL:=zh htl
 clear hst hW0 hv hS hb hx hV hln hcp hE hL hr hsm htl
 go_enter func86,ntmps86
 go_upto_region 1 with fail
 rw[HW0.out]
 go_upto_region 24 with (first | (go_at_call 76;refine HC.out.mono ?_;rintro e' w1 ⟨on,lenn,capn,ov,lenv,capv,rfl,hg1,hg2,hl1,hl2,hb1⟩;have HG1:=zh hg1;have HG2:=zh hg2;have HB1:=zh hb1;clear hg1 hg2 hl1 hl2 hb1) | (go_at_call 30;refine (zah _).mono ?_;rintro e' wN ⟨⟨vN,rfl⟩,rfl⟩) | fail)
 have HST1:=zh (HST.out.below HB1.out)
 have HDI:=zh (HST1.out.distinct ns _ HG1.out (by have:=HLE.out;omega))
 rw[hdi] at HDI
 clear e0 e1 e2 e3 e4 el
 go_upto_region 25 with (first | (go_at_call 49;refine HDI.out.mono ?_;rintro e' w2 ⟨rfl,hb2⟩) | (go_at_call 30;refine (zah _).mono ?_;rintro e' wN ⟨⟨vN,rfl⟩,rfl⟩) | fail)
 have jj:=zh (HST1.out.below hb2)
 have HN2:=zh (Sp.below HG1.out hb2)
 have HV2:=zh (Sp.below HG2.out hb2)
 have HL2:=zh (Sp.below (Sp.below HLV.out HB1.out) hb2)
 clear hb2
 obtain ⟨p1,hp1,hn1,hk⟩:=Sy.bnd_split HR.out
 have HC2:=zh (zbr HE.out (S1 S w.heap.size) b n vs _ _ p1 hp1 jj.out.lt (.inl jj.out.own) jj.out.hx jj.out.hE (Sp.data HV2.out) (by have:=HLE.out;omega))
 have HYL:=zh (show ∀ys m,p1=some (ys,m)->ys.length=vs.length from fun ys m h=>by subst h;exact Sy.all_len hp1)
 have HNN:=zh hn1
 have HK:=zh hk
 clear hp1 hn1 hk
 match p1,HC2,HNN,HK,HYL with
 | none,HC2,HNN,HK,HYL=>
  have hrn:=HNN.out rfl
  subst hrn
  go_wp2_with (first | (go_at_call 88;refine HC2.out.mono ?_;rintro e' w4 ⟨rfl,ht4⟩) | fail)
  exact ⟨rfl,jj.out.bad' ht4⟩
 | some (ys,m),HC2,HNN,HK,HYL=>
  go_upto_region 26 with (first | (go_at_call 88;refine HC2.out.mono ?_;rintro e' w4 ⟨v4,rfl,hg4,ht4,hx4⟩) | fail)
  have HST4:=zh (jj.out.next ht4 hx4)
  have HG4:=zh (show (Sp.row (some ys)).holds (S1 S w.heap.size) v4 w4 from Sp.ofS hg4.rep)
  have HN4:=zh (jj.out.keep HN2.out ht4)
  have HL4:=zh (jj.out.keep HL2.out ht4)
  have HYE:=zh (show ns.length=ys.length from by rw[HYL.out ys m rfl];exact HLE.out.1)
  obtain ⟨p1,hp1,hn1,hk⟩:=Sy.bnd_split (HK.out ys m rfl)
  have HP1:=zh hp1
  have jh:=zh hn1
  have HRF:=zh hk
  clear hg4 ht4 hx4 hp1 hn1 hk
  refine zad (dr:=true) (S:=S) (b:=b) (H:=w.heap.size) 10 [7] (fun j=>[m,cnt p1].getD j 0) [.val (.string ⟨#[108,101,116,114,101,99]⟩),.row (some (ns)),.row (some (ys)),.dat (some (Sy.pairs ns ys)),.val (.pointer (some ⟨b,0,none⟩)),.row (some (x::c::t)),.row (some (c::t)),.dat (p1.map (·.1)),.row ((some (Sy.pairs ns ys)).bind fun u0_112=>(p1.map (·.1)).bind fun u1_112=>some [u0_112,u1_112]),.dat (((some (Sy.pairs ns ys)).bind fun u0_112=>(p1.map (·.1)).bind fun u1_112=>some [u0_112,u1_112]).map (Sy.form ⟨#[108,101,116,114,101,99]⟩))] HST4.out (by show zB _ _ 10 160=true;kernel_rfl) (by decide) (by decide) (by kernel_rfl) ?hops ?hcall ?hend
  case hops=>
   intro i o8 hi hip ho a8 w8 hdf jd ht8 jb ja
   match i,hi,hip with
   | 0,_,_=>cases ho;exact zac rfl (Sp.at ja 1 (by kernel_rfl) (rfl) (.inl HST4.out.own) ht8)
   | 1,_,_=>cases ho;exact zac rfl (Sp.at ja 8 (by kernel_rfl) (HN4.out) (.inl HST4.out.own) ht8)
   | 2,_,_=>cases ho;exact zac rfl (Sp.at ja 9 (by kernel_rfl) (HG4.out) (.inl HST4.out.own) ht8)
   | 3,_,_=>cases ho;exact zcU rfl (Sp.dep jb 1 105 (by kernel_rfl)) (Sp.dep jb 2 106 (by kernel_rfl)) (HYE.out) (by have:=HLE.out.2;omega) jd
   | 4,_,_=>cases ho;exact zac rfl (Sp.at ja 0 (by kernel_rfl) (rfl) (.inl HST4.out.own) ht8)
   | 5,_,_=>cases ho;exact zac rfl (Sp.at ja 2 (by kernel_rfl) (HL4.out) (.inl HST4.out.own) ht8)
   | 6,_,_=>cases ho;exact zaD (k:=1) rfl (Sp.dep jb 5 109 (by kernel_rfl)) (by decide) (by simp) (by decide)
   | 7,_,h=>exact absurd (by decide) h
   | 8,_,_=>cases ho;exact zdp rfl (Sp.dep jb 3 107 (by kernel_rfl)) (Sp.dep jb 7 111 (by kernel_rfl)) jd
   | 9,_,_=>cases ho;exact zhN rfl (Sp.dep jb 0 104 (by kernel_rfl)) (Sp.dep jb 8 112 (by kernel_rfl)) (by decide) (rowlen2) jd
   | i+10,hi,_=>exact absurd hi (by omega)
  case hcall=>
   intro j i o8 hj ho a8 w8 hdf jc ht8 jb jg ja
   match j,hj with
   | 0,hj=>
    cases hj;cases ho
    refine zaN (p:=p1) rfl (Sp.dep jb 4 108 (by kernel_rfl)) (fun _ _=>rfl) (zd0 HE.out HL.out (S1 S w.heap.size) b _ (c::t) _ w8 p1 HP1.out (fun y hy=>HSM.out y (List.mem_cons_of_mem _ hy)) (by have:=HTL.out;simp only[qzN];omega) jc.lt (.inl jc.own) jc.hx jc.hE (Sp.data (Sp.dep jb 6 110 (by kernel_rfl)))) fun hp w9 ht9=>?_
    cases jh.out hp;exact ⟨hdf,jc.bad' ht9⟩
   | _+1,hj=>simp at hj
  case hend=>
   intro a8 w8 hdf hsz jc ht8 hval ja
   refine fin_s (r:=r) jc (hval 9 _ 113 (by omega) rfl rfl) (fun x8 hx8=>?_) ((ja.at 6 (by kernel_rfl)).trans rfl) hdf rfl results86 fun w9 h9=>?_
   ·clear hval ja hdf hsz jc ht8
    rcases p1 with _ | ⟨y1,n1⟩
    ·simp at hx8
    cases hx8
    exact Sy.ret_split (HRF.out _ _ rfl)
   ·go_wp2_with fail
theorem zcR (l:List Dat) (hl:l.length<2) (S:Nat->Prop) (b n:Nat) (sl:Value) (w:World) (hS:∀c,S c->c<w.heap.size) (hb:S b) (hx:XP w b n) (hV:Env w) (hv:RepS (hide w S) w.heap.size l sl) :
  Calls prog 86 #[.pointer (some ⟨b,0,none⟩),.string ⟨#[108,101,116,114,101,99,42]⟩,sl] w (XRes S b none w):=by
 obtain ⟨o,len,cap,rfl,hln,hcp⟩:=Sp.slice (Sp.ofS hv)
 obtain ⟨W0,hW0,hst⟩:=zaw hS hb hx hV
 have HST:=zh hst
 have HW0:=zh hW0
 have hlq:=hln
 have hg1a:decide ((len:Int) > 1)=false:=by simp;omega
 have hg1b:¬1<len:=by omega
 have hg1c:¬(1:Int)<len:=by omega
 clear hlq
 have HLV:=zh (hst.first (Sp.ofS hv))
 clear hst hW0 hv hS hb hx hV hln hcp
 go_enter func86,ntmps86
 go_upto_region 1 with fail
 rw[HW0.out]
 go_wp2_with (first | (go_at_call 30;refine (zaf _).mono ?_;rintro e' wN ⟨rfl,rfl⟩) | fail)
 exact ⟨rfl,HST.out.bad⟩
theorem zew (x c:Dat) (t:List Dat) (S:Nat->Prop) (b n:Nat) (sl:Value) (w:World) (hbi:Sy.binds x=none) (hsm:∀y∈x::c::t,Sy.small y=true) (_htl:t.length<=99998) (hS:∀c,S c->c<w.heap.size) (hb:S b) (hx:XP w b n) (hV:Env w) (hv:RepS (hide w S) w.heap.size (x::c::t) sl) :
  Calls prog 86 #[.pointer (some ⟨b,0,none⟩),.string ⟨#[108,101,116,114,101,99,42]⟩,sl] w (XRes S b none w):=by
 obtain ⟨o,len,cap,rfl,hln,hcp⟩:=Sp.slice (Sp.ofS hv)
 obtain ⟨W0,hW0,hst⟩:=zaw hS hb hx hV
 have HST:=zh hst
 have HW0:=zh hW0
 have hge:2<=len:=by rw[hln];simp
 have hg1a:decide ((len:Int) > 1)=true:=by simp;omega
 have hg1b:1<len:=by omega
 have hg1c:(1:Int)<len:=by omega
 clear hge
 obtain ⟨c1,off1,rfl,hel⟩:=Sp.nth (j:=0) (hst.first (Sp.ofS hv)) rfl
 obtain ⟨k3,m3,d3,st3,o3,len3,cap3,hxr,e0,e1,e2,e3,e4,el⟩:=Sp.cells hel
 simp only[Nat.zero_mul,Nat.add_zero] at e0 e1 e2 e3 e4
 have HC:=zh (hst.bindings_none x _ hbi hxr (hsm x (by simp)))
 clear hel hxr
 have HLV:=zh (hst.first (Sp.ofS hv))
 clear hst hW0 hv hS hb hx hV hln hcp
 go_enter func86,ntmps86
 go_upto_region 1 with fail
 rw[HW0.out]
 go_wp2_with (first | (go_at_call 76;refine HC.out.mono ?_;rintro e' w1 ⟨vn,vv,rfl,hb1⟩) | (go_at_call 30;refine (zah _).mono ?_;rintro e' wN ⟨⟨vN,rfl⟩,rfl⟩) | (go_at_call 30;refine (zaf _).mono ?_;rintro e' wN ⟨rfl,rfl⟩) | fail)
 exact ⟨rfl,HST.out.bad' (Turned.of_below hb1)⟩
theorem zd4 (x c:Dat) (t:List Dat) (ns vs:List Dat) (S:Nat->Prop) (b n:Nat) (sl:Value) (w:World) (hbi:Sy.binds x=some (ns,vs)) (hdi:Sy.distinct ns=false) (hsm:∀y∈x::c::t,Sy.small y=true) (_htl:t.length<=99998) (hS:∀c,S c->c<w.heap.size) (hb:S b) (hx:XP w b n) (hV:Env w) (hv:RepS (hide w S) w.heap.size (x::c::t) sl) :
  Calls prog 86 #[.pointer (some ⟨b,0,none⟩),.string ⟨#[108,101,116,114,101,99,42]⟩,sl] w (XRes S b none w):=by
 obtain ⟨o,len,cap,rfl,hln,hcp⟩:=Sp.slice (Sp.ofS hv)
 obtain ⟨W0,hW0,hst⟩:=zaw hS hb hx hV
 have HST:=zh hst
 have HW0:=zh hW0
 have hge:2<=len:=by rw[hln];simp
 have hg1a:decide ((len:Int) > 1)=true:=by simp;omega
 have hg1b:1<len:=by omega
 have hg1c:(1:Int)<len:=by omega
 clear hge
 obtain ⟨c1,off1,rfl,hel⟩:=Sp.nth (j:=0) (hst.first (Sp.ofS hv)) rfl
 obtain ⟨k3,m3,d3,st3,o3,len3,cap3,hxr,e0,e1,e2,e3,e4,el⟩:=Sp.cells hel
 simp only[Nat.zero_mul,Nat.add_zero] at e0 e1 e2 e3 e4
 have HC:=zh (hst.bindings_some x _ _ _ hbi hxr (hsm x (by simp)))
 have HLE:=zh (show ns.length=vs.length∧ns.length<=99999 from by have h1:=Sy.binds_len hbi;have h2:=(Sy.small_iff.1 (hsm x (by simp))).2;have h3:=hbi;unfold Sy.binds at h3;split at h3;(have:=Sy.bindsL_len h3;omega);(cases h3))
 clear hel hxr
 have HLV:=zh (hst.first (Sp.ofS hv))
 clear hst hW0 hv hS hb hx hV hln hcp
 go_enter func86,ntmps86
 go_upto_region 1 with fail
 rw[HW0.out]
 go_upto_region 24 with (first | (go_at_call 76;refine HC.out.mono ?_;rintro e' w1 ⟨on,lenn,capn,ov,lenv,capv,rfl,hg1,hg2,hl1,hl2,hb1⟩;have HG1:=zh hg1;have HG2:=zh hg2;have HB1:=zh hb1;clear hg1 hg2 hl1 hl2 hb1) | (go_at_call 30;refine (zah _).mono ?_;rintro e' wN ⟨⟨vN,rfl⟩,rfl⟩) | fail)
 have HDI:=zh ((HST.out.below HB1.out).distinct ns _ HG1.out (by have:=HLE.out;omega))
 rw[hdi] at HDI
 go_wp2_with (first | (go_at_call 49;refine HDI.out.mono ?_;rintro e' w2 ⟨rfl,hb2⟩) | (go_at_call 30;refine (zaf _).mono ?_;rintro e' wN ⟨rfl,rfl⟩) | fail)
 exact ⟨rfl,HST.out.bad' ((Turned.of_below HB1.out).next (Turned.of_below hb2))⟩
theorem zip {E:Dat->Sy.M Dat} {L:Dat->List Dat->Sy.M Dat} (hE:EOk E) (hL:LOk L) (x c:Dat) (t:List Dat) (ns vs:List Dat) (S:Nat->Prop) (b n:Nat) (sl:Value) (w:World) (hbi:Sy.binds x=some (ns,vs)) (hdi:Sy.distinct ns=true) (hsm:∀y∈x::c::t,Sy.small y=true) (htl:t.length<=99998) (r:Option (Dat × Nat)) (hr:Sy.bnd (Sy.all E vs) (fun q=>Sy.bnd (Sy.body E L (c::t)) fun y=>Sy.ret (Sy.form Sy.letrecSB [Sy.pairs ns q,y])) n=some r) (hS:∀c,S c->c<w.heap.size) (hb:S b) (hx:XP w b n) (hV:Env w) (hv:RepS (hide w S) w.heap.size (x::c::t) sl) :
  Calls prog 86 #[.pointer (some ⟨b,0,none⟩),.string ⟨#[108,101,116,114,101,99,42]⟩,sl] w (XRes S b r w):=by
 obtain ⟨o,len,cap,rfl,hln,hcp⟩:=Sp.slice (Sp.ofS hv)
 obtain ⟨W0,hW0,hst⟩:=zaw hS hb hx hV
 have HST:=zh hst
 have HW0:=zh hW0
 have hge:2<=len:=by rw[hln];simp
 have hg1a:decide ((len:Int) > 1)=true:=by simp;omega
 have hg1b:1<len:=by omega
 have hg1c:(1:Int)<len:=by omega
 clear hge
 obtain ⟨c1,off1,rfl,hel⟩:=Sp.nth (j:=0) (hst.first (Sp.ofS hv)) rfl
 obtain ⟨k3,m3,d3,st3,o3,len3,cap3,hxr,e0,e1,e2,e3,e4,el⟩:=Sp.cells hel
 simp only[Nat.zero_mul,Nat.add_zero] at e0 e1 e2 e3 e4
 have HC:=zh (hst.bindings_some x _ _ _ hbi hxr (hsm x (by simp)))
 have HLE:=zh (show ns.length=vs.length∧ns.length<=99999 from by have h1:=Sy.binds_len hbi;have h2:=(Sy.small_iff.1 (hsm x (by simp))).2;have h3:=hbi;unfold Sy.binds at h3;split at h3;(have:=Sy.bindsL_len h3;omega);(cases h3))
 clear hel hxr
 have HLV:=zh (hst.first (Sp.ofS hv))
 have HE:=zh hE
 have HL:=zh hL
 have HR:=zh hr
 have HSM:=zh hsm
 have HTL:=zh htl
 clear hst hW0 hv hS hb hx hV hln hcp hE hL hr hsm htl
 go_enter func86,ntmps86
 go_upto_region 1 with fail
 rw[HW0.out]
 go_upto_region 24 with (first | (go_at_call 76;refine HC.out.mono ?_;rintro e' w1 ⟨on,lenn,capn,ov,lenv,capv,rfl,hg1,hg2,hl1,hl2,hb1⟩;have HG1:=zh hg1;have HG2:=zh hg2;have HB1:=zh hb1;clear hg1 hg2 hl1 hl2 hb1) | (go_at_call 30;refine (zah _).mono ?_;rintro e' wN ⟨⟨vN,rfl⟩,rfl⟩) | fail)
 have HST1:=zh (HST.out.below HB1.out)
 have HDI:=zh (HST1.out.distinct ns _ HG1.out (by have:=HLE.out;omega))
 rw[hdi] at HDI
 clear e0 e1 e2 e3 e4 el
 go_upto_region 25 with (first | (go_at_call 49;refine HDI.out.mono ?_;rintro e' w2 ⟨rfl,hb2⟩) | (go_at_call 30;refine (zah _).mono ?_;rintro e' wN ⟨⟨vN,rfl⟩,rfl⟩) | fail)
 have jj:=zh (HST1.out.below hb2)
 have HN2:=zh (Sp.below HG1.out hb2)
 have HV2:=zh (Sp.below HG2.out hb2)
 have HL2:=zh (Sp.below (Sp.below HLV.out HB1.out) hb2)
 clear hb2
 obtain ⟨p1,hp1,hn1,hk⟩:=Sy.bnd_split HR.out
 have HC2:=zh (zbr HE.out (S1 S w.heap.size) b n vs _ _ p1 hp1 jj.out.lt (.inl jj.out.own) jj.out.hx jj.out.hE (Sp.data HV2.out) (by have:=HLE.out;omega))
 have HYL:=zh (show ∀ys m,p1=some (ys,m)->ys.length=vs.length from fun ys m h=>by subst h;exact Sy.all_len hp1)
 have HNN:=zh hn1
 have HK:=zh hk
 clear hp1 hn1 hk
 match p1,HC2,HNN,HK,HYL with
 | none,HC2,HNN,HK,HYL=>
  have hrn:=HNN.out rfl
  subst hrn
  go_wp2_with (first | (go_at_call 88;refine HC2.out.mono ?_;rintro e' w4 ⟨rfl,ht4⟩) | fail)
  exact ⟨rfl,jj.out.bad' ht4⟩
 | some (ys,m),HC2,HNN,HK,HYL=>
  go_upto_region 26 with (first | (go_at_call 88;refine HC2.out.mono ?_;rintro e' w4 ⟨v4,rfl,hg4,ht4,hx4⟩) | fail)
  have HST4:=zh (jj.out.next ht4 hx4)
  have HG4:=zh (show (Sp.row (some ys)).holds (S1 S w.heap.size) v4 w4 from Sp.ofS hg4.rep)
  have HN4:=zh (jj.out.keep HN2.out ht4)
  have HL4:=zh (jj.out.keep HL2.out ht4)
  have HYE:=zh (show ns.length=ys.length from by rw[HYL.out ys m rfl];exact HLE.out.1)
  obtain ⟨p1,hp1,hn1,hk⟩:=Sy.bnd_split (HK.out ys m rfl)
  have HP1:=zh hp1
  have jh:=zh hn1
  have HRF:=zh hk
  clear hg4 ht4 hx4 hp1 hn1 hk
  refine zad (dr:=true) (S:=S) (b:=b) (H:=w.heap.size) 10 [7] (fun j=>[m,cnt p1].getD j 0) [.val (.string ⟨#[108,101,116,114,101,99,42]⟩),.row (some (ns)),.row (some (ys)),.dat (some (Sy.pairs ns ys)),.val (.pointer (some ⟨b,0,none⟩)),.row (some (x::c::t)),.row (some (c::t)),.dat (p1.map (·.1)),.row ((some (Sy.pairs ns ys)).bind fun u0_112=>(p1.map (·.1)).bind fun u1_112=>some [u0_112,u1_112]),.dat (((some (Sy.pairs ns ys)).bind fun u0_112=>(p1.map (·.1)).bind fun u1_112=>some [u0_112,u1_112]).map (Sy.form ⟨#[108,101,116,114,101,99,42]⟩))] HST4.out (by show zB _ _ 10 160=true;kernel_rfl) (by decide) (by decide) (by kernel_rfl) ?hops ?hcall ?hend
  case hops=>
   intro i o8 hi hip ho a8 w8 hdf jd ht8 jb ja
   match i,hi,hip with
   | 0,_,_=>cases ho;exact zac rfl (Sp.at ja 1 (by kernel_rfl) (rfl) (.inl HST4.out.own) ht8)
   | 1,_,_=>cases ho;exact zac rfl (Sp.at ja 8 (by kernel_rfl) (HN4.out) (.inl HST4.out.own) ht8)
   | 2,_,_=>cases ho;exact zac rfl (Sp.at ja 9 (by kernel_rfl) (HG4.out) (.inl HST4.out.own) ht8)
   | 3,_,_=>cases ho;exact zcU rfl (Sp.dep jb 1 105 (by kernel_rfl)) (Sp.dep jb 2 106 (by kernel_rfl)) (HYE.out) (by have:=HLE.out.2;omega) jd
   | 4,_,_=>cases ho;exact zac rfl (Sp.at ja 0 (by kernel_rfl) (rfl) (.inl HST4.out.own) ht8)
   | 5,_,_=>cases ho;exact zac rfl (Sp.at ja 2 (by kernel_rfl) (HL4.out) (.inl HST4.out.own) ht8)
   | 6,_,_=>cases ho;exact zaD (k:=1) rfl (Sp.dep jb 5 109 (by kernel_rfl)) (by decide) (by simp) (by decide)
   | 7,_,h=>exact absurd (by decide) h
   | 8,_,_=>cases ho;exact zdp rfl (Sp.dep jb 3 107 (by kernel_rfl)) (Sp.dep jb 7 111 (by kernel_rfl)) jd
   | 9,_,_=>cases ho;exact zhN rfl (Sp.dep jb 0 104 (by kernel_rfl)) (Sp.dep jb 8 112 (by kernel_rfl)) (by decide) (rowlen2) jd
   | i+10,hi,_=>exact absurd hi (by omega)
  case hcall=>
   intro j i o8 hj ho a8 w8 hdf jc ht8 jb jg ja
   match j,hj with
   | 0,hj=>
    cases hj;cases ho
    refine zaN (p:=p1) rfl (Sp.dep jb 4 108 (by kernel_rfl)) (fun _ _=>rfl) (zd0 HE.out HL.out (S1 S w.heap.size) b _ (c::t) _ w8 p1 HP1.out (fun y hy=>HSM.out y (List.mem_cons_of_mem _ hy)) (by have:=HTL.out;simp only[qzN];omega) jc.lt (.inl jc.own) jc.hx jc.hE (Sp.data (Sp.dep jb 6 110 (by kernel_rfl)))) fun hp w9 ht9=>?_
    cases jh.out hp;exact ⟨hdf,jc.bad' ht9⟩
   | _+1,hj=>simp at hj
  case hend=>
   intro a8 w8 hdf hsz jc ht8 hval ja
   refine fin_s (r:=r) jc (hval 9 _ 113 (by omega) rfl rfl) (fun x8 hx8=>?_) ((ja.at 6 (by kernel_rfl)).trans rfl) hdf rfl results86 fun w9 h9=>?_
   ·clear hval ja hdf hsz jc ht8
    rcases p1 with _ | ⟨y1,n1⟩
    ·simp at hx8
    cases hx8
    exact Sy.ret_split (HRF.out _ _ rfl)
   ·go_wp2_with fail
theorem zin {E:Dat->Sy.M Dat} {L:Dat->List Dat->Sy.M Dat} (hE:EOk E) (hL:LOk L) (S:Nat->Prop) (b n:Nat) (x:Dat) (xv:Value) (l:List Dat) (sl:Value) (w:World) (r:Option (Dat × Nat)) (hr:Sy.orBad (Sy.binds x) (fun names values=>Sy.chainF E L names values l) n=some r) (hS:∀c,S c->c<w.heap.size) (hb:S b) (hx:XP w b n) (hV:Env w) (hxv:RepD (hide w S) w.heap.size x xv) (hsm:Sy.small x=true) (hv:RepS (hide w S) w.heap.size l sl) :
  Calls prog 107 #[.pointer (some ⟨b,0,none⟩),xv,sl] w (XRes S b r w):=by
 match hbi:Sy.binds x with
 | none=>
  rw[hbi] at hr
  obtain rfl:=Sy.bad_split (n:=n) hr
  exact zgP S b n x xv l sl w hbi hS hb hx hV hxv hsm hv
 | some (ns,vs)=>
  rw[hbi] at hr
  exact ziM hE hL ns vs S b n x xv l sl w r hr hbi hS hb hx hV hxv hsm hv
theorem zcx (l:List Dat) (hl:l.length<2) (S:Nat->Prop) (b n:Nat) (sl:Value) (w:World) (hS:∀c,S c->c<w.heap.size) (hb:S b) (hx:XP w b n) (hV:Env w) (hv:RepS (hide w S) w.heap.size l sl) :
  Calls prog 86 #[.pointer (some ⟨b,0,none⟩),.string ⟨#[108,101,116,42]⟩,sl] w (XRes S b none w):=by
 obtain ⟨o,len,cap,rfl,hln,hcp⟩:=Sp.slice (Sp.ofS hv)
 obtain ⟨W0,hW0,hst⟩:=zaw hS hb hx hV
 have HST:=zh hst
 have HW0:=zh hW0
 have hlq:=hln
 have hg1a:decide ((len:Int) > 1)=false:=by simp;omega
 have hg1b:¬1<len:=by omega
 have hg1c:¬(1:Int)<len:=by omega
 clear hlq
 have HLV:=zh (hst.first (Sp.ofS hv))
 clear hst hW0 hv hS hb hx hV hln hcp
 go_enter func86,ntmps86
 go_upto_region 1 with fail
 rw[HW0.out]
 go_wp2_with (first | (go_at_call 30;refine (zaf _).mono ?_;rintro e' wN ⟨rfl,rfl⟩) | fail)
 exact ⟨rfl,HST.out.bad⟩
theorem zgz {E:Dat->Sy.M Dat} {L:Dat->List Dat->Sy.M Dat} (hE:EOk E) (hL:LOk L) (x c:Dat) (t:List Dat) (S:Nat->Prop) (b n:Nat) (sl:Value) (w:World) (hsx:Sy.small x=true) (r:Option (Dat × Nat)) (hr:Sy.orBad (Sy.binds x) (fun names values=>Sy.chainF E L names values (c::t)) n=some r) (hS:∀c,S c->c<w.heap.size) (hb:S b) (hx:XP w b n) (hV:Env w) (hv:RepS (hide w S) w.heap.size (x::c::t) sl) :
  Calls prog 86 #[.pointer (some ⟨b,0,none⟩),.string ⟨#[108,101,116,42]⟩,sl] w (XRes S b r w):=by
 obtain ⟨o,len,cap,rfl,hln,hcp⟩:=Sp.slice (Sp.ofS hv)
 obtain ⟨W0,hW0,hst⟩:=zaw hS hb hx hV
 have HST:=zh hst
 have HW0:=zh hW0
 have hge:2<=len:=by rw[hln];simp
 have hg1a:decide ((len:Int) > 1)=true:=by simp;omega
 have hg1b:1<len:=by omega
 have hg1c:(1:Int)<len:=by omega
 clear hge
 have HLV:=zh (hst.first (Sp.ofS hv))
 have HE:=zh hE
 have HL:=zh hL
 have HR:=zh hr
 have HSX:=zh hsx
 clear hst hW0 hv hS hb hx hV hln hcp hE hL hr hsx
 go_enter func86,ntmps86
 go_upto_region 1 with fail
 rw[HW0.out]
 go_upto_region 29 with (first | (go_at_call 30;refine (zah _).mono ?_;rintro e' wN ⟨⟨vN,rfl⟩,rfl⟩) | fail)
 obtain ⟨p1,hp1⟩:∃p1,r=p1:=⟨_,rfl⟩
 have HP1:=zh (show Sy.orBad (Sy.binds x) (fun names values=>Sy.chainF E L names values (c::t)) n=some p1 from by rw[<-hp1];exact HR.out)
 have jh:=zh (show p1=none->r=none from fun h=>by rw[hp1];exact h)
 have HRF:=zh hp1
 clear hp1
 refine zad (dr:=true) (S:=S) (b:=b) (H:=w.heap.size) 7 [6] (fun j=>[n,cnt p1].getD j 0) [.val (.pointer (some ⟨b,0,none⟩)),.row (some (x::c::t)),.elm (some (x)),.dat (some (x)),.row (some (x::c::t)),.row (some (c::t)),.dat (p1.map (·.1))] HST.out (by show zB _ _ 7 160=true;kernel_rfl) (by decide) (by decide) (by kernel_rfl) ?hops ?hcall ?hend
 case hops=>
  intro i o8 hi hip ho a8 w8 hdf jd ht8 jb ja
  match i,hi,hip with
  | 0,_,_=>cases ho;exact zac rfl (Sp.at ja 0 (by kernel_rfl) (rfl) (.inl HST.out.own) ht8)
  | 1,_,_=>cases ho;exact zac rfl (Sp.at ja 2 (by kernel_rfl) (HLV.out) (.inl HST.out.own) ht8)
  | 2,_,_=>cases ho;exact zas (k:=0) rfl (Sp.dep jb 1 120 (by kernel_rfl)) rfl (by decide)
  | 3,_,_=>cases ho;exact zal rfl (Sp.dep jb 2 121 (by kernel_rfl))
  | 4,_,_=>cases ho;exact zac rfl (Sp.at ja 2 (by kernel_rfl) (HLV.out) (.inl HST.out.own) ht8)
  | 5,_,_=>cases ho;exact zaD (k:=1) rfl (Sp.dep jb 4 123 (by kernel_rfl)) (by decide) (by simp) (by decide)
  | 6,_,h=>exact absurd (by decide) h
  | i+7,hi,_=>exact absurd hi (by omega)
 case hcall=>
  intro j i o8 hj ho a8 w8 hdf jc ht8 jb jg ja
  match j,hj with
  | 0,hj=>
   cases hj;cases ho
   have hv0:a8.tmps.getD 119 undef=.pointer (some ⟨b,0,none⟩):=(Sp.dep jb 0 119 (by kernel_rfl))
   refine zaI (p:=p1) (vals:=#[.pointer (some ⟨b,0,none⟩),a8.tmps.getD 122 undef,a8.tmps.getD 124 undef]) rfl (by simp only[List.map_toArray,List.map_cons,List.map_nil];rw[<-hv0];rfl) (fun _ _=>rfl) (zin HE.out HL.out (S1 S w.heap.size) b _ x _ (c::t) _ w8 p1 HP1.out jc.lt (.inl jc.own) jc.hx jc.hE (Sp.datum (Sp.dep jb 3 122 (by kernel_rfl))) HSX.out (Sp.data (Sp.dep jb 5 124 (by kernel_rfl)))) fun hp w9 ht9=>?_
   have hrn:=jh.out hp
   subst hrn
   exact ⟨hdf,jc.bad' ht9⟩
  | _+1,hj=>simp at hj
 case hend=>
  intro a8 w8 hdf hsz jc ht8 hval ja
  refine fin_s (r:=r) jc (hval 6 _ 125 (by omega) rfl rfl) (fun x8 hx8=>?_) ((ja.at 6 (by kernel_rfl)).trans rfl) hdf rfl results86 fun w9 h9=>?_
  ·clear hval ja hdf hsz jc ht8
   rcases p1 with _ | ⟨y1,n1⟩
   ·simp at hx8
   cases hx8
   exact HRF.out
  ·go_wp2_with fail
theorem zds (l:List Dat) (hl:l.length<2) (S:Nat->Prop) (b n:Nat) (sl:Value) (w:World) (hS:∀c,S c->c<w.heap.size) (hb:S b) (hx:XP w b n) (hV:Env w) (hv:RepS (hide w S) w.heap.size l sl) :
  Calls prog 86 #[.pointer (some ⟨b,0,none⟩),.string ⟨#[108,101,116]⟩,sl] w (XRes S b none w):=by
 obtain ⟨o,len,cap,rfl,hln,hcp⟩:=Sp.slice (Sp.ofS hv)
 obtain ⟨W0,hW0,hst⟩:=zaw hS hb hx hV
 have HST:=zh hst
 have HW0:=zh hW0
 have hlq:=hln
 have hg1a:decide ((len:Int) > 1)=false:=by simp;omega
 have hg1b:¬1<len:=by omega
 have hg1c:¬(1:Int)<len:=by omega
 clear hlq
 have HLV:=zh (hst.first (Sp.ofS hv))
 clear hst hW0 hv hS hb hx hV hln hcp
 go_enter func86,ntmps86
 go_upto_region 1 with fail
 rw[HW0.out]
 go_wp2_with (first | (go_at_call 30;refine (zaf _).mono ?_;rintro e' wN ⟨rfl,rfl⟩) | fail)
 exact ⟨rfl,HST.out.bad⟩
theorem zji {E:Dat->Sy.M Dat} {L:Dat->List Dat->Sy.M Dat} (hE:EOk E) (hL:LOk L) (x c:Dat) (t:List Dat) (hvx:Sy.isVar x=false) (S:Nat->Prop) (b n:Nat) (sl:Value) (w:World) (hsx:Sy.small x=true) (r:Option (Dat × Nat)) (hr:Sy.orBad (Sy.binds x) (fun names values=>Sy.letF E L names values (c::t)) n=some r) (hS:∀c,S c->c<w.heap.size) (hb:S b) (hx:XP w b n) (hV:Env w) (hv:RepS (hide w S) w.heap.size (x::c::t) sl) :
  Calls prog 86 #[.pointer (some ⟨b,0,none⟩),.string ⟨#[108,101,116]⟩,sl] w (XRes S b r w):=by
 obtain ⟨o,len,cap,rfl,hln,hcp⟩:=Sp.slice (Sp.ofS hv)
 obtain ⟨W0,hW0,hst⟩:=zaw hS hb hx hV
 have HST:=zh hst
 have HW0:=zh hW0
 have hge:2<=len:=by rw[hln];simp
 have hg1a:decide ((len:Int) > 1)=true:=by simp;omega
 have hg1b:1<len:=by omega
 have hg1c:(1:Int)<len:=by omega
 clear hge
 obtain ⟨c1,off1,rfl,hel⟩:=Sp.nth (j:=0) (hst.first (Sp.ofS hv)) rfl
 obtain ⟨k3,m3,d3,st3,o3,len3,cap3,hxr,e0,e1,e2,e3,e4,el⟩:=Sp.cells hel
 simp only[Nat.zero_mul,Nat.add_zero] at e0 e1 e2 e3 e4
 have HVA:=zh (fun w=>zaP (w:=w) x _ hxr)
 rw[hvx] at HVA
 clear hel hxr
 have HLV:=zh (hst.first (Sp.ofS hv))
 have HE:=zh hE
 have HL:=zh hL
 have HR:=zh hr
 have HSX:=zh hsx
 clear hst hW0 hv hS hb hx hV hln hcp hE hL hr hsx
 go_enter func86,ntmps86
 go_upto_region 1 with fail
 rw[HW0.out]
 go_upto_region 33 with (first | (go_at_call 72;refine (HVA.out _).mono ?_;rintro e' w2 ⟨rfl,hb2⟩) | (go_at_call 30;refine (zah _).mono ?_;rintro e' wN ⟨⟨vN,rfl⟩,rfl⟩) | fail)
 have jj:=zh (HST.out.below hb2)
 have HL2:=zh (Sp.below HLV.out hb2)
 clear hb2 e0 e1 e2 e3 e4 el
 obtain ⟨p1,hp1⟩:∃p1,r=p1:=⟨_,rfl⟩
 have HP1:=zh (show Sy.orBad (Sy.binds x) (fun names values=>Sy.letF E L names values (c::t)) n=some p1 from by rw[<-hp1];exact HR.out)
 have jh:=zh (show p1=none->r=none from fun h=>by rw[hp1];exact h)
 have HRF:=zh hp1
 clear hp1
 refine zad (dr:=true) (S:=S) (b:=b) (H:=w.heap.size) 7 [6] (fun j=>[n,cnt p1].getD j 0) [.val (.pointer (some ⟨b,0,none⟩)),.row (some (x::c::t)),.elm (some (x)),.dat (some (x)),.row (some (x::c::t)),.row (some (c::t)),.dat (p1.map (·.1))] jj.out (by show zB _ _ 7 160=true;kernel_rfl) (by decide) (by decide) (by kernel_rfl) ?hops ?hcall ?hend
 case hops=>
  intro i o8 hi hip ho a8 w8 hdf jd ht8 jb ja
  match i,hi,hip with
  | 0,_,_=>cases ho;exact zac rfl (Sp.at ja 0 (by kernel_rfl) (rfl) (.inl jj.out.own) ht8)
  | 1,_,_=>cases ho;exact zac rfl (Sp.at ja 2 (by kernel_rfl) (HL2.out) (.inl jj.out.own) ht8)
  | 2,_,_=>cases ho;exact zas (k:=0) rfl (Sp.dep jb 1 137 (by kernel_rfl)) rfl (by decide)
  | 3,_,_=>cases ho;exact zal rfl (Sp.dep jb 2 138 (by kernel_rfl))
  | 4,_,_=>cases ho;exact zac rfl (Sp.at ja 2 (by kernel_rfl) (HL2.out) (.inl jj.out.own) ht8)
  | 5,_,_=>cases ho;exact zaD (k:=1) rfl (Sp.dep jb 4 140 (by kernel_rfl)) (by decide) (by simp) (by decide)
  | 6,_,h=>exact absurd (by decide) h
  | i+7,hi,_=>exact absurd hi (by omega)
 case hcall=>
  intro j i o8 hj ho a8 w8 hdf jc ht8 jb jg ja
  match j,hj with
  | 0,hj=>
   cases hj;cases ho
   have hv0:a8.tmps.getD 136 undef=.pointer (some ⟨b,0,none⟩):=(Sp.dep jb 0 136 (by kernel_rfl))
   refine zaI (p:=p1) (vals:=#[.pointer (some ⟨b,0,none⟩),a8.tmps.getD 139 undef,a8.tmps.getD 141 undef]) rfl (by simp only[List.map_toArray,List.map_cons,List.map_nil];rw[<-hv0];rfl) (fun _ _=>rfl) (zhz HE.out HL.out (S1 S w.heap.size) b _ x _ (c::t) _ w8 p1 HP1.out jc.lt (.inl jc.own) jc.hx jc.hE (Sp.datum (Sp.dep jb 3 139 (by kernel_rfl))) (Sy.small_iff.1 HSX.out).1 (Sy.small_iff.1 HSX.out).2 (Sp.data (Sp.dep jb 5 141 (by kernel_rfl)))) fun hp w9 ht9=>?_
   have hrn:=jh.out hp
   subst hrn
   exact ⟨hdf,jc.bad' ht9⟩
  | _+1,hj=>simp at hj
 case hend=>
  intro a8 w8 hdf hsz jc ht8 hval ja
  refine fin_s (r:=r) jc (hval 6 _ 142 (by omega) rfl rfl) (fun x8 hx8=>?_) ((ja.at 6 (by kernel_rfl)).trans rfl) hdf rfl results86 fun w9 h9=>?_
  ·clear hval ja hdf hsz jc ht8
   rcases p1 with _ | ⟨y1,n1⟩
   ·simp at hx8
   cases hx8
   exact HRF.out
  ·go_wp2_with fail
theorem zeo (x c:Dat) (hvx:Sy.isVar x=true) (S:Nat->Prop) (b n:Nat) (sl:Value) (w:World) (hS:∀c,S c->c<w.heap.size) (hb:S b) (hx:XP w b n) (hV:Env w) (hv:RepS (hide w S) w.heap.size [x,c] sl) :
  Calls prog 86 #[.pointer (some ⟨b,0,none⟩),.string ⟨#[108,101,116]⟩,sl] w (XRes S b none w):=by
 obtain ⟨o,len,cap,rfl,hln,hcp⟩:=Sp.slice (Sp.ofS hv)
 obtain ⟨W0,hW0,hst⟩:=zaw hS hb hx hV
 have HST:=zh hst
 have HW0:=zh hW0
 obtain rfl:len=2:=by rw[hln];rfl
 obtain ⟨c1,off1,rfl,hel⟩:=Sp.nth (j:=0) (hst.first (Sp.ofS hv)) rfl
 obtain ⟨k3,m3,d3,st3,o3,len3,cap3,hxr,e0,e1,e2,e3,e4,el⟩:=Sp.cells hel
 simp only[Nat.zero_mul,Nat.add_zero] at e0 e1 e2 e3 e4
 have HVA:=zh (fun w=>zaP (w:=w) x _ hxr)
 rw[hvx] at HVA
 clear hel hxr
 have HLV:=zh (hst.first (Sp.ofS hv))
 clear hst hW0 hv hS hb hx hV hln hcp
 go_enter func86,ntmps86
 go_upto_region 1 with fail
 rw[HW0.out]
 go_wp2_with (first | (go_at_call 72;refine (HVA.out _).mono ?_;rintro e' w2 ⟨rfl,hb2⟩) | (go_at_call 30;refine (zah _).mono ?_;rintro e' wN ⟨⟨vN,rfl⟩,rfl⟩) | (go_at_call 30;refine (zaf _).mono ?_;rintro e' wN ⟨rfl,rfl⟩) | fail)
 exact ⟨rfl,HST.out.bad' (Turned.of_below hb2)⟩
theorem zgZ {E:Dat->Sy.M Dat} {L:Dat->List Dat->Sy.M Dat} (hE:EOk E) (hL:LOk L) (x c d:Dat) (t:List Dat) (hvx:Sy.isVar x=true) (S:Nat->Prop) (b n:Nat) (sl:Value) (w:World) (hsc:Sy.small c=true) (r:Option (Dat × Nat)) (hr:Sy.namedF E L x c (d::t) n=some r) (hS:∀c,S c->c<w.heap.size) (hb:S b) (hx:XP w b n) (hV:Env w) (hv:RepS (hide w S) w.heap.size (x::c::d::t) sl) :
  Calls prog 86 #[.pointer (some ⟨b,0,none⟩),.string ⟨#[108,101,116]⟩,sl] w (XRes S b r w):=by
 obtain ⟨o,len,cap,rfl,hln,hcp⟩:=Sp.slice (Sp.ofS hv)
 obtain ⟨W0,hW0,hst⟩:=zaw hS hb hx hV
 have HST:=zh hst
 have HW0:=zh hW0
 have hge:3<=len:=by rw[hln];simp
 have hg1a:decide ((len:Int) > 1)=true:=by simp;omega
 have hg1b:1<len:=by omega
 have hg1c:(1:Int)<len:=by omega
 have hg2a:decide ((len:Int) > 2)=true:=by simp;omega
 have hg2b:2<len:=by omega
 have hg2c:(2:Int)<len:=by omega
 have hge2:0<len:=by omega
 clear hge
 obtain ⟨c1,off1,rfl,hel⟩:=Sp.nth (j:=0) (hst.first (Sp.ofS hv)) rfl
 obtain ⟨k3,m3,d3,st3,o3,len3,cap3,hxr,e0,e1,e2,e3,e4,el⟩:=Sp.cells hel
 simp only[Nat.zero_mul,Nat.add_zero] at e0 e1 e2 e3 e4
 have HVA:=zh (fun w=>zaP (w:=w) x _ hxr)
 rw[hvx] at HVA
 clear hel hxr
 have HLV:=zh (hst.first (Sp.ofS hv))
 have HE:=zh hE
 have HL:=zh hL
 have HR:=zh hr
 have HSC:=zh hsc
 clear hst hW0 hv hS hb hx hV hln hcp hE hL hr hsc
 go_enter func86,ntmps86
 go_upto_region 1 with fail
 rw[HW0.out]
 go_upto_region 35 with (first | (go_at_call 72;refine (HVA.out _).mono ?_;rintro e' w2 ⟨rfl,hb2⟩) | (go_at_call 30;refine (zah _).mono ?_;rintro e' wN ⟨⟨vN,rfl⟩,rfl⟩) | fail)
 have jj:=zh (HST.out.below hb2)
 have HL2:=zh (Sp.below HLV.out hb2)
 clear hb2 e0 e1 e2 e3 e4 el
 obtain ⟨p1,hp1⟩:∃p1,r=p1:=⟨_,rfl⟩
 have HP1:=zh (show Sy.namedF E L x c (d::t) n=some p1 from by rw[<-hp1];exact HR.out)
 have jh:=zh (show p1=none->r=none from fun h=>by rw[hp1];exact h)
 have HRF:=zh hp1
 clear hp1
 refine zad (dr:=true) (S:=S) (b:=b) (H:=w.heap.size) 10 [9] (fun j=>[n,cnt p1].getD j 0) [.val (.pointer (some ⟨b,0,none⟩)),.row (some (x::c::d::t)),.elm (some (x)),.dat (some (x)),.row (some (x::c::d::t)),.elm (some (c)),.dat (some (c)),.row (some (x::c::d::t)),.row (some (d::t)),.dat (p1.map (·.1))] jj.out (by show zB _ _ 10 160=true;kernel_rfl) (by decide) (by decide) (by kernel_rfl) ?hops ?hcall ?hend
 case hops=>
  intro i o8 hi hip ho a8 w8 hdf jd ht8 jb ja
  match i,hi,hip with
  | 0,_,_=>cases ho;exact zac rfl (Sp.at ja 0 (by kernel_rfl) (rfl) (.inl jj.out.own) ht8)
  | 1,_,_=>cases ho;exact zac rfl (Sp.at ja 2 (by kernel_rfl) (HL2.out) (.inl jj.out.own) ht8)
  | 2,_,_=>cases ho;exact zas (k:=0) rfl (Sp.dep jb 1 147 (by kernel_rfl)) rfl (by decide)
  | 3,_,_=>cases ho;exact zal rfl (Sp.dep jb 2 148 (by kernel_rfl))
  | 4,_,_=>cases ho;exact zac rfl (Sp.at ja 2 (by kernel_rfl) (HL2.out) (.inl jj.out.own) ht8)
  | 5,_,_=>cases ho;exact zas (k:=1) rfl (Sp.dep jb 4 150 (by kernel_rfl)) rfl (by decide)
  | 6,_,_=>cases ho;exact zal rfl (Sp.dep jb 5 151 (by kernel_rfl))
  | 7,_,_=>cases ho;exact zac rfl (Sp.at ja 2 (by kernel_rfl) (HL2.out) (.inl jj.out.own) ht8)
  | 8,_,_=>cases ho;exact zaD (k:=2) rfl (Sp.dep jb 7 153 (by kernel_rfl)) (by decide) (by simp) (by decide)
  | 9,_,h=>exact absurd (by decide) h
  | i+10,hi,_=>exact absurd hi (by omega)
 case hcall=>
  intro j i o8 hj ho a8 w8 hdf jc ht8 jb jg ja
  match j,hj with
  | 0,hj=>
   cases hj;cases ho
   have hv0:a8.tmps.getD 146 undef=.pointer (some ⟨b,0,none⟩):=(Sp.dep jb 0 146 (by kernel_rfl))
   refine zaI (p:=p1) (vals:=#[.pointer (some ⟨b,0,none⟩),a8.tmps.getD 149 undef,a8.tmps.getD 152 undef,a8.tmps.getD 154 undef]) rfl (by simp only[List.map_toArray,List.map_cons,List.map_nil];rw[<-hv0];rfl) (fun _ _=>rfl) (zhZ HE.out HL.out (S1 S w.heap.size) b _ x c _ _ (d::t) _ w8 p1 HP1.out jc.lt (.inl jc.own) jc.hx jc.hE (Sp.datum (Sp.dep jb 3 149 (by kernel_rfl))) (Sp.datum (Sp.dep jb 6 152 (by kernel_rfl))) HSC.out (Sp.data (Sp.dep jb 8 154 (by kernel_rfl)))) fun hp w9 ht9=>?_
   have hrn:=jh.out hp
   subst hrn
   exact ⟨hdf,jc.bad' ht9⟩
  | _+1,hj=>simp at hj
 case hend=>
  intro a8 w8 hdf hsz jc ht8 hval ja
  refine fin_s (r:=r) jc (hval 9 _ 155 (by omega) rfl rfl) (fun x8 hx8=>?_) ((ja.at 6 (by kernel_rfl)).trans rfl) hdf rfl results86 fun w9 h9=>?_
  ·clear hval ja hdf hsz jc ht8
   rcases p1 with _ | ⟨y1,n1⟩
   ·simp at hx8
   cases hx8
   exact HRF.out
  ·go_wp2_with fail
def DvOk (E:Dat->Sy.M Dat):Prop:=∀(key:ByteArray) (l:List Dat) (S:Nat->Prop) (b n:Nat) (sl:Value) (w:World) (r:Option (Dat × Nat)),Sy.derivedF E key l n=some r->(∀y∈l,Sy.small y=true)->l.length<=99999->(∀c,S c->c<w.heap.size)->S b->XP w b n->Env w->RepS (hide w S) w.heap.size l sl ->
 Calls prog 110 #[.pointer (some ⟨b,0,none⟩),.string key,sl] w (XRes S b r w)
theorem zfp {E:Dat->Sy.M Dat} (hD:DvOk E) (T:List UInt8) (l:List Dat) (S:Nat->Prop) (b n:Nat) (sl:Value) (w:World) (hk:(⟨T.toArray⟩:ByteArray)≠Sy.quoteB∧(⟨T.toArray⟩:ByteArray)≠Sy.ifB∧(⟨T.toArray⟩:ByteArray)≠Sy.lambdaB∧(⟨T.toArray⟩:ByteArray)≠Sy.setB∧(⟨T.toArray⟩:ByteArray)≠Sy.beginB∧(⟨T.toArray⟩:ByteArray)≠Sy.letrecB∧(⟨T.toArray⟩:ByteArray)≠Sy.letrecSB∧(⟨T.toArray⟩:ByteArray)≠Sy.letSB∧(⟨T.toArray⟩:ByteArray)≠Sy.letB) (hsm:∀y∈l,Sy.small y=true) (hll:l.length<=99999) (r:Option (Dat × Nat)) (hr:Sy.derivedF E ⟨T.toArray⟩ l n=some r) (hS:∀c,S c->c<w.heap.size) (hb:S b) (hx:XP w b n) (hV:Env w) (hv:RepS (hide w S) w.heap.size l sl) :
  Calls prog 86 #[.pointer (some ⟨b,0,none⟩),.string ⟨T.toArray⟩,sl] w (XRes S b r w):=by
 obtain ⟨o,len,cap,rfl,hln,hcp⟩:=Sp.slice (Sp.ofS hv)
 obtain ⟨W0,hW0,hst⟩:=zaw hS hb hx hV
 have HST:=zh hst
 have HW0:=zh hW0
 have hs0:(T==[113,117,111,116,101])=false:=beq_eq_false_iff_ne.2 fun h=>hk.1 (by rw[h];rfl)
 have hs1:(T==[105,102])=false:=beq_eq_false_iff_ne.2 fun h=>hk.2.1 (by rw[h];rfl)
 have hs2:(T==[108,97,109,98,100,97])=false:=beq_eq_false_iff_ne.2 fun h=>hk.2.2.1 (by rw[h];rfl)
 have hs3:(T==[115,101,116,33])=false:=beq_eq_false_iff_ne.2 fun h=>hk.2.2.2.1 (by rw[h];rfl)
 have hs4:(T==[98,101,103,105,110])=false:=beq_eq_false_iff_ne.2 fun h=>hk.2.2.2.2.1 (by rw[h];rfl)
 have hs5:(T==[108,101,116,114,101,99])=false:=beq_eq_false_iff_ne.2 fun h=>hk.2.2.2.2.2.1 (by rw[h];rfl)
 have hs6:(T==[108,101,116,114,101,99,42])=false:=beq_eq_false_iff_ne.2 fun h=>hk.2.2.2.2.2.2.1 (by rw[h];rfl)
 have hs7:(T==[108,101,116,42])=false:=beq_eq_false_iff_ne.2 fun h=>hk.2.2.2.2.2.2.2.1 (by rw[h];rfl)
 have hs8:(T==[108,101,116])=false:=beq_eq_false_iff_ne.2 fun h=>hk.2.2.2.2.2.2.2.2 (by rw[h];rfl)
 clear hk
 have HLV:=zh (hst.first (Sp.ofS hv))
 have HD:=zh hD
 have HR:=zh hr
 have HSM:=zh hsm
 have HLL:=zh hll
 clear hst hW0 hv hS hb hx hV hln hcp hD hr hsm hll
 go_enter func86,ntmps86
 go_upto_region 1 with fail
 rw[HW0.out]
 go_upto_region 36 with fail
 obtain ⟨p1,hp1⟩:∃p1,r=p1:=⟨_,rfl⟩
 have HP1:=zh (show Sy.derivedF E ⟨T.toArray⟩ l n=some p1 from by rw[<-hp1];exact HR.out)
 have jh:=zh (show p1=none->r=none from fun h=>by rw[hp1];exact h)
 have HRF:=zh hp1
 clear hp1
 refine zad (dr:=false) (S:=S) (b:=b) (H:=w.heap.size) 4 [3] (fun j=>[n,cnt p1].getD j 0) [.val (.pointer (some ⟨b,0,none⟩)),.val (.string ⟨T.toArray⟩),.row (some (l)),.dat (p1.map (·.1))] HST.out (by show zB _ _ 4 160=true;kernel_rfl) (by decide) (by decide) (by kernel_rfl) ?hops ?hcall ?hend
 case hops=>
  intro i o8 hi hip ho a8 w8 hdf jd ht8 jb ja
  match i,hi,hip with
  | 0,_,_=>cases ho;exact zac rfl (Sp.at ja 0 (by kernel_rfl) (rfl) (.inl HST.out.own) ht8)
  | 1,_,_=>cases ho;exact zac rfl (Sp.at ja 1 (by kernel_rfl) (rfl) (.inl HST.out.own) ht8)
  | 2,_,_=>cases ho;exact zac rfl (Sp.at ja 2 (by kernel_rfl) (HLV.out) (.inl HST.out.own) ht8)
  | 3,_,h=>exact absurd (by decide) h
  | i+4,hi,_=>exact absurd hi (by omega)
 case hcall=>
  intro j i o8 hj ho a8 w8 hdf jc ht8 jb jg ja
  match j,hj with
  | 0,hj=>
   cases hj;cases ho
   have hv0:a8.tmps.getD 156 undef=.pointer (some ⟨b,0,none⟩):=(Sp.dep jb 0 156 (by kernel_rfl))
   have hv1:a8.tmps.getD 157 undef=.string ⟨T.toArray⟩:=(Sp.dep jb 1 157 (by kernel_rfl))
   refine zaI (p:=p1) (vals:=#[.pointer (some ⟨b,0,none⟩),.string ⟨T.toArray⟩,a8.tmps.getD 158 undef]) rfl (by simp only[List.map_toArray,List.map_cons,List.map_nil];rw[<-hv0];rw[<-hv1];rfl) (fun _ _=>rfl) (HD.out ⟨T.toArray⟩ l (S1 S w.heap.size) b _ _ w8 p1 HP1.out HSM.out HLL.out jc.lt (.inl jc.own) jc.hx jc.hE (Sp.data (Sp.dep jb 2 158 (by kernel_rfl)))) fun hp w9 ht9=>?_
   have hrn:=jh.out hp
   subst hrn
   exact ⟨hdf,jc.bad' ht9⟩
  | _+1,hj=>simp at hj
 case hend=>
  intro a8 w8 hdf hsz jc ht8 hval ja
  refine fin_s (r:=r) jc (hval 3 _ 159 (by omega) rfl rfl) (fun x8 hx8=>?_) ((ja.at 6 (by kernel_rfl)).trans rfl) hdf rfl results86 fun w9 h9=>?_
  ·clear hval ja hdf hsz jc ht8
   rcases p1 with _ | ⟨y1,n1⟩
   ·simp at hx8
   cases hx8
   exact HRF.out
  ·go_wp2_with fail
end
end Go.Proofs.YtnbjhmafnigefaaGreatDoor
