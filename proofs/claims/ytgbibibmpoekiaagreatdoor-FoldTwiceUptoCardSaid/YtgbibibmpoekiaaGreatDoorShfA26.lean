/-
  What the proofs lean on: FdC, CkL, FwS, FdE.
-/
import Derived.Deep.RegionWith
import Derived.Test.YtgbibibmpoekiaaGreatDoorShfA04
import Derived.Test.YtgbibibmpoekiaaGreatDoorShfA07
import Derived.Test.YtgbibibmpoekiaaGreatDoorShfA11
import Derived.Test.YtgbibibmpoekiaaGreatDoorShfA22
import Derived.Test.YtgbibibmpoekiaaGreatDoorShfA23
import Derived.Test.YtgbibibmpoekiaaGreatDoorShfA24
import Derived.Test.YtgbibibmpoekiaaGreatDoorShfA25
set_option maxRecDepth 100000
set_option maxHeartbeats 16000000
namespace Go.Proofs.YtgbibibmpoekiaaGreatDoor
section
open Go Go.RowKit
namespace Fd
def foldF (n:Int) (l:List Dat):Option Dat:=if (Prims.fold n l).2.2=true∧(Prims.fold n l).2.1=0∧Dat.right (Prims.fold n l).1 0=true then some (Prims.fold n l).1 else none
theorem foldF_right (n:Int) (l:List Dat) (d:Dat) (h:foldF n l=some d):Dat.right d 0=true:=by
 unfold foldF at h
 split at h
 ·rename_i hc
  cases h
  exact hc.2.2
 ·cases h
theorem text_false {d:Dat} (h:Dat.right d 0=true):Dat.text d false=[35,102]↔d.kind=1∧d.n=0:=by
 have hf:Dat.right (.mk 1 0 0 ⟨#[]⟩ []) 0=true:=by decide +kernel
 have ht:Dat.text (.mk 1 0 0 ⟨#[]⟩ []) false=[35,102]:=by simp[Dat.text,Dat.textA]
 constructor
 ·intro e
  have:=Dat.text_inj h hf (e.trans ht.symm)
  rw[this]
  exact ⟨rfl,rfl⟩
 ·rintro ⟨hk,hn⟩
  obtain ⟨k,n,dd,s,l⟩:=d
  replace hk:k=1:=hk
  replace hn:n=0:=hn
  subst hk hn
  have:dd=0∧s=⟨#[]⟩∧l=[]:=by
   simp only[Dat.right,Bool.and_eq_true] at h
   have h1:=h.2.1
   simp[Dat.head] at h1
   obtain ⟨g1,g2,g3⟩:=h1
   obtain ⟨⟨q⟩⟩:=s
   exact ⟨g1,by simpa using g2,g3⟩
  obtain ⟨rfl,rfl,rfl⟩:=this
  exact ht
end Fd
end
section
open Go Go.RowKit
def plainR (nc nk:Int) (fr:Bool) (sc:Int→Bool) (l v:List Int) (ts:List Trm):Bool:=okL nc nk fr sc l (ts.take (ts.length-1))&&(Trm.newB (fun _=>false) (l++Trm.bndL (ts.take (ts.length-1))++v)&&okL nc nk fr (Trm.addV sc v) (l++Trm.bndL (ts.take (ts.length-1))++v) (ts.drop (ts.length-1)))
theorem TrmS.at0 {W:World} {B:Nat} {l:List Trm} {o:Option Addr} {len cap:Nat} (h:TrmS W B l (.slice o len cap)) {i:Nat} {x:Trm} (hx:l[i]?=some x):∃b off,∃c0 c1 c2 c3:Value,o=some ⟨b,off,none⟩∧TrmR W B x [c0,c1,c2,c3]:=by
 obtain ⟨b,off,cs,ho,hlt,hcl,hcell,hr⟩:=SlC.at h (Below.refl _ _) hx
 match cs,hcl with
 | [c0,c1,c2,c3],_=>exact ⟨b,off,c0,c1,c2,c3,ho,hr⟩
def slv:Option Addr→Nat→Nat→Value
 | none,_,_=>.slice none 0 0
 | some a,lt,ct=>.slice (some (if ct=lt-1 then a else a.add ((lt-1)*4))) (lt-(lt-1)) (ct-(lt-1))
theorem slv_none {W:World} {B:Nat} {ts:List Trm} {lt ct:Nat} (h:TrmS W B ts (.slice none lt ct)):lt=0∧ct=0:=by
 obtain ⟨o',l',c',he,h1,_,_,h4⟩:=h
 simp only[Value.slice.injEq] at he
 obtain ⟨rfl,rfl,rfl⟩:=he
 exact ⟨by rw[h1,h4.1];rfl,h4.2⟩
theorem slv_terms {W:World} {B:Nat} {ts:List Trm} {ot:Option Addr} {lt ct:Nat} (h:TrmS W B ts (.slice ot lt ct)):TrmS W B (ts.drop (lt-1)) (slv ot lt ct):=by
 have hl:=(SlC.lens h).1
 have hc:=(SlC.lens h).2.1
 have hm:=(SlC.lens h).2.2
 cases ot with
 | none=>
  obtain ⟨rfl,rfl⟩:=slv_none h
  rw[List.eq_nil_of_length_eq_zero hl.symm]
  exact ⟨none,0,0,rfl,rfl,Nat.le_refl _,by omega,rfl,rfl⟩
 | some a=>
  by_cases h0:lt=0
  ·subst h0
   rw[List.eq_nil_of_length_eq_zero hl.symm]
   exact ⟨_,_,_,rfl,rfl,by omega,by omega,fun h=>absurd rfl h,fun i x hx=>by simp at hx⟩
  ·obtain ⟨L,rfl⟩:∃L,lt=L+1:=⟨lt-1,by omega⟩
   obtain ⟨x,hx⟩:∃x,ts[L]?=some x:=⟨_,List.getElem?_eq_getElem (by omega)⟩
   obtain ⟨b,off,c0,c1,c2,c3,ho,_⟩:=TrmS.at0 h hx
   simp only[Option.some.injEq] at ho
   subst ho
   have h1:=SlC.drops (n:=L) h (by omega)
   have h2:SlC W B 4 (TrmR W B) (ts.drop L) (.slice (some ⟨b,off+L*4,none⟩) 1 (ct-L)):=by simpa using h1
   have hne:¬ct=L:=by omega
   show SlC W B 4 (TrmR W B) (ts.drop (L+1-1)) (slv (some ⟨b,off,none⟩) (L+1) ct)
   have h3:slv (some ⟨b,off,none⟩) (L+1) ct=.slice (some ⟨b,off+L*4,none⟩) 1 (ct-L):=by
    simp only[slv,Nat.add_sub_cancel,if_neg hne]
    rw[add_none rfl,show L+1-L=1 by omega]
   rw[h3,Nat.add_sub_cancel]
   exact h2
theorem okL_perm {nc nk:Int} {fr:Bool} {sc:Int→Bool} {l l':List Int} (h:l.Perm l') {ts:List Trm}:okL nc nk fr sc l ts=okL nc nk fr sc l' ts:=by
 unfold okL
 rw[Trm.newB_perm (h.append_right (Trm.bndL ts))]
theorem right_close {w10 w11:World} {cb bb sb:Nat} {nc nk:Int} {fr:Bool} {size:Int} {l' v:List Int} {sc:Int→Bool} (hcs:ChkS w10 cb bb sb nc nk fr size l' (Trm.addV sc v)) (hm:MapVB w11 sb l'.length (fun x=>Trm.addV sc v x && !v.contains x)) (ht:Turned (fun b=>b=sb) w10 w11) (hd:∀x,sc x=true→x∉v):ChkS w11 cb bb sb nc nk fr size l' sc:=by
 refine ⟨ht.box hcs.box (fun e=>map_box_ne hcs.scope hcs.box e),hcs.bound.same (ht.block _ hcs.bound.lt (fun e=>hcs.ne e)),?_,hcs.new,hcs.ne⟩
 have e:sc=fun x=>Trm.addV sc v x && !v.contains x:=by
  funext x
  by_cases hx:x∈v
  ·have:sc x=false:=by
    cases h:sc x with
    | false=>rfl
    | true=>exact absurd hx (hd x h)
   simp[Trm.addV,hx,this]
  ·simp[Trm.addV,hx]
 rw[e]
 exact hm
theorem GoodR.keep {w w':World} {cb bb sb:Nat} {nc nk:Int} {fr:Bool} {size:Int} {l b:List Int} {sc:Int→Bool} (h:GoodR cb bb sb nc nk fr size l b sc w) (hb:Below w.heap.size w w'):GoodR cb bb sb nc nk fr size l b sc w':=let ⟨l',hp,hc⟩:=h;⟨l',hp,hc.keep hb⟩
end
section
open Go Go.RowKit
def SF (S:Nat→Prop) (fb b:Nat):Prop:=S b∨b=fb
def FT (fb:Nat) (sl:Value) (b:Nat):Prop:=b=fb∨sl.ownBlock=some b
structure FoS (W:World) (S:Nat→Prop) (fb base:Nat) (sl:Value) (cs:List Dat):Prop where
 box:BoxL W fb 50 [sl]
 row:GrownS W (SF S fb) base cs sl
def FH (S:Nat→Prop) (fb:Nat) (sl:Value):Nat→Prop:=SR (SF S fb) sl
theorem FoS.lt {W:World} {S:Nat→Prop} {fb base:Nat} {sl:Value} {cs:List Dat} (h:FoS W S fb base sl cs):∀b,FH S fb sl b→b<W.heap.size:=sr_lt h.row (Nat.le_refl _)
theorem FoS.below {W W':World} {S:Nat→Prop} {fb base:Nat} {sl:Value} {cs:List Dat} (h:FoS W S fb base sl cs) (hb:Below W.heap.size W W'):FoS W' S fb base sl cs:=⟨h.box.keep hb,h.row.below hb⟩
theorem FoS.turned {T:Nat→Prop} {W W':World} {S:Nat→Prop} {fb base:Nat} {sl:Value} {cs:List Dat} (h:FoS W S fb base sl cs) (ht:Turned T W W') (hT:∀b,b<W.heap.size→T b→S b) (hf:¬T fb):FoS W' S fb base sl cs:=
 ⟨ht.box h.box hf,h.row.turned ht fun b hb hs=>.inl (hT b hb hs)⟩
theorem FoS.more {W W':World} {S S':Nat→Prop} {fb base:Nat} {sl:Value} {cs:List Dat} (h:FoS W S fb base sl cs) (hb:Below W.heap.size W W') (_hS:∀b,S b→S' b) (hn:∀b,S' b→S b∨W.heap.size≤b) (hl:∀b,S' b→b<W'.heap.size):FoS W' S' fb base sl cs:=by
 refine ⟨h.box.keep hb,h.row.rehide hb.size (fun b hs=>hs.elim (hl b) fun e=>by subst e;exact Nat.lt_of_lt_of_le h.box.lt hb.size) (fun g hg hs=>?_) (fun g hg=>hb.block g (h.row.block hg).2) ?_⟩
 ·rcases hs with hs | hs
  ·rcases hn g hs with hs | hs
   ·exact h.row.apart g hg (.inl hs)
   ·have:=(h.row.block hg).2;omega
  ·exact h.row.apart g hg (.inr hs)
 ·intro c o u hc hu
  have hlt:=cell_lt hu
  refine ⟨fun hs=>?_,(hb.cell (p:=⟨c,o,none⟩) hlt).trans hu⟩
  rcases hs with (hs | hs) | hs
  ·rcases hn c hs with hs | hs
   ·exact hc (.inl (.inl hs))
   ·omega
  ·exact hc (.inl (.inr hs))
  ·exact hc (.inr hs)
def TmPost (S:Nat→Prop) (x:Trm) (w:World) (e:Ending) (w':World):Prop:=
 ∃(o n:Int) (ov ot:Option Addr) (lv cv lt ct:Nat),e=.returned (.agg #[.int .i64 o,.int .i64 n,.slice ov lv cv,.slice ot lt ct])∧TrmR (hide w' S) w'.heap.size x [.int .i64 o,.int .i64 n,.slice ov lv cv,.slice ot lt ct]∧Below w.heap.size w w'
end
section
open Go Go.RowKit
namespace Fd
open Trm
theorem bulk_pos (x:Dat):1≤Dat.bulk x:=by obtain ⟨k,n,d,s,l⟩:=x;rw[Dat.bulk];omega
theorem bulkL_mem:∀{l:List Dat} {x:Dat},x∈l→Dat.bulk x≤Dat.bulkL l
 | y::l,x,h=>by
  rw[Dat.bulkL]
  rcases List.mem_cons.1 h with rfl | h
  ·omega
  ·have:=bulkL_mem h
   omega
theorem bulk_part (x:Dat) (i:Nat):Dat.bulk (x.l.getD i Prims.zeroD)≤Dat.bulk x:=by
 by_cases hi:i<x.l.length
 ·rw[List.getD_eq_getElem?_getD,List.getElem?_eq_getElem hi]
  have:=bulkL_mem (List.getElem_mem hi)
  obtain ⟨k,n,d,s,l⟩:=x
  rw[Dat.bulk]
  show Dat.bulk l[i]≤_
  have h2:Dat.bulk l[i]≤Dat.bulkL l:=this
  omega
 ·rw[List.getD_eq_getElem?_getD,List.getElem?_eq_none (by omega)]
  exact bulk_pos x
theorem headD_bulk {M:Nat} (hM:1≤M) {l:List Dat} (hl:∀x∈l,Dat.bulk x≤M):Dat.bulk (l.headD Prims.zeroD)≤M:=by
 cases l with
 | nil=>exact hM
 | cons x l=>exact hl x (by simp)
theorem does_bulk {M:Nat} (hM:1≤M) (n:Int) (l:List Dat) (hl:∀x∈l,Dat.bulk x≤M):Dat.bulk (Prims.does n l).1≤M:=by
 have hsl:∀(n:Int) (l:List Dat) (a b:Int),Dat.bulk (Prims.sumsL n l a b).1≤M:=fun n l=>by
  induction l with
  | nil=>intro a b;exact hM
  | cons x l ih=>
   intro a b
   unfold Prims.sumsL
   split
   ·exact ih _ _
   ·exact hM
 have hs:∀(n:Int) (l:List Dat),Dat.bulk (Prims.sums n l).1≤M:=fun n l=>by
  unfold Prims.sums
  split
  ·exact hM
  ·unfold Prims.sumsR
   repeat' split
   all_goals exact hsl _ _ _ _
 have hp:∀i:Nat,Dat.bulk ((l.headD Prims.zeroD).l.getD i Prims.zeroD)≤M:=fun i=>Nat.le_trans (bulk_part _ i) (headD_bulk hM hl)
 have ha:∀x:Dat,Dat.bulk (Prims.at' (l.headD Prims.zeroD) x).1≤M:=fun x=>by
  unfold Prims.at'
  repeat' split
  all_goals first | exact hp _ | exact hM
 unfold Prims.does Prims.equal
 repeat' split
 all_goals first | exact hs _ _ | exact hp _ | exact ha _ | exact hM
theorem foldF_bulk {M:Nat} (hM:1≤M) {n:Int} {l:List Dat} {d:Dat} (h:foldF n l=some d) (hl:∀x∈l,Dat.bulk x≤M):Dat.bulk d≤M:=by
 unfold foldF at h
 split at h
 ·cases h
  unfold Prims.fold
  split
  ·split
   ·exact does_bulk hM n l hl
   ·exact hM
  ·exact hM
 ·cases h
theorem dataOf_mem {cs:List Dat}:∀{l:List Trm} {x:List Dat},dataOf cs l=some x→∀d∈x,d∈cs
 | [],x,h,d,hd=>by
  simp only[dataOf,Option.some.injEq] at h
  subst h;cases hd
 | y::a,x,h,d,hd=>by
  simp only[dataOf] at h
  by_cases h0:y.op=0
  ·simp only[h0,if_true] at h
   cases h1:cs[y.n.toNat]? with
   | none=>rw[h1] at h;cases h
   | some z=>
    rw[h1] at h
    cases h2:dataOf cs a with
    | none=>rw[h2] at h;cases h
    | some r=>
     rw[h2] at h
     simp only[Option.some.injEq] at h
     subst h
     rcases List.mem_cons.1 hd with rfl | hd
     ·exact List.mem_of_getElem? h1
     ·exact dataOf_mem h2 d hd
  ·simp only[h0,if_false] at h
   cases h
theorem termL_snoc (F:Int→List Dat→Option Dat):∀{l:List Trm} {j:Nat} {y:Trm} (cs:List Dat),l[j]?=some y→termL F (l.take (j+1)) cs=((termL F (l.take j) cs).1++[(term F y (termL F (l.take j) cs).2).1],(term F y (termL F (l.take j) cs).2).2)
 | [],j,y,cs,h=>by simp at h
 | x::l,0,y,cs,h=>by
  obtain rfl:x=y:=by simpa using h
  simp[termL]
 | x::l,j+1,y,cs,h=>by
  have:=termL_snoc F (l:=l) (j:=j) (y:=y) (term F x cs).2 (by simpa using h)
  simp only[List.take_succ_cons,termL]
  rw[this];rfl
theorem prim_few (F:Int→List Dat→Option Dat) (n:Int) (l:List Trm) (cs:List Dat):(prim F n l cs).2.length≤cs.length+1:=by
 unfold prim
 repeat' split
 all_goals simp
theorem post_few (F:Int→List Dat→Option Dat) (op n:Int) (v:List Int) (t:List Trm) (cs:List Dat):(post F op n v t cs).2.length≤cs.length+1:=by
 unfold post
 repeat' split
 all_goals first | exact prim_few _ _ _ _ | exact Nat.le_succ _
theorem term_few (F:Int→List Dat→Option Dat):∀(x:Trm) (cs:List Dat),(term F x cs).2.length≤cs.length+x.all:=by
 intro x
 induction x using Trm.ind with
 | h o n v t ih=>
  intro cs
  have key:∀(l:List Trm) (cs:List Dat),(∀y∈l,∀cs,(term F y cs).2.length≤cs.length+y.all)→(termL F l cs).2.length≤cs.length+allL l:=fun l=>by
   induction l with
   | nil=>intro cs _;exact Nat.le_refl _
   | cons y l ihl=>
    intro cs hy
    have h1:=hy y (by simp) cs
    have h2:=ihl (term F y cs).2 fun z hz=>hy z (List.mem_cons_of_mem _ hz)
    rw[termL,allL]
    show (termL F l (term F y cs).2).2.length≤_
    omega
  have h1:=key t cs ih
  have h2:=post_few F o n v (termL F t cs).1 (termL F t cs).2
  rw[term,Trm.all]
  omega
theorem termL_few (F:Int→List Dat→Option Dat):∀(l:List Trm) (cs:List Dat),(termL F l cs).2.length≤cs.length+allL l
 | [],_=>Nat.le_refl _
 | y::l,cs=>by
  have h1:=term_few F y cs
  have h2:=termL_few F l (term F y cs).2
  rw[termL,allL]
  show (termL F l (term F y cs).2).2.length≤_
  omega
theorem termL_small (F:Int→List Dat→Option Dat):∀(l:List Trm) (cs:List Dat),neatL l=true→allL (termL F l cs).1≤allL l
 | [],_,_=>Nat.le_refl _
 | y::l,cs,h=>by
  simp only[neatL,Bool.and_eq_true] at h
  have h1:=(term_small F y cs h.1).1
  have h2:=termL_small F l (term F y cs).2 h.2
  rw[termL,allL,allL]
  omega
theorem termL_bnd (F:Int→List Dat→Option Dat) {nk:Int} {fr:Bool} (a:Int):∀(l:List Trm) (cs0 cs:List Dat),cs0 <+: cs→(∀y∈l,∃sc,wf cs0.length nk fr y sc=true)→(bndL (termL F l cs).1).count a≤(bndL l).count a
 | [],_,_,_,_=>Nat.le_refl _
 | y::l,cs0,cs,hp,hex=>by
  obtain ⟨s,hs⟩:=hex y (by simp)
  have k1:=(term_fine F y s cs (wf_more (pre_len hp) hs)).2 a
  have k2:=termL_bnd F a l cs0 (term F y cs).2 (hp.trans (term_more F y cs)) fun z hz=>hex z (List.mem_cons_of_mem _ hz)
  rw[termL,bndL,bndL,List.count_append,List.count_append]
  omega
theorem termL_two (F:Int→List Dat→Option Dat) {nk:Int} {fr:Bool} {v:List Int} {sc:Int→Bool}:∀(l:List Trm) (cs0 cs:List Dat),cs0 <+: cs→∀nc':Int,((termL F l cs).2.length:Int)≤nc' →
  All2 (fun x y=>(x.op=4→y.op=4)∧(wf cs0.length nk fr x sc=true→wf nc' nk fr y sc=true)∧(wf cs0.length nk fr x (addV sc v)=true→wf nc' nk fr y (addV sc v)=true)) l (termL F l cs).1
 | [],_,_,_,_,_=>by rw[termL,All2]
 | y::l,cs0,cs,hp,nc',hle=>by
  have hm:=term_more F y cs
  have hm2:=termL_more F l (term F y cs).2
  rw[termL] at hle
  replace hle:((termL F l (term F y cs).2).2.length:Int)≤nc':=hle
  have hl2:=pre_len hm2
  rw[termL,All2]
  exact ⟨_,_,rfl,⟨term_lam,fun hw=>wf_more (by omega) (term_fine F y sc cs (wf_more (pre_len hp) hw)).1,fun hw=>wf_more (by omega) (term_fine F y _ cs (wf_more (pre_len hp) hw)).1⟩,termL_two F l cs0 _ (hp.trans hm) nc' hle⟩
theorem count_len:∀(a b:List Int),(∀x,a.count x≤b.count x)→a.length≤b.length
 | [],_,_=>Nat.zero_le _
 | x::a,b,h=>by
  have hx:x∈b:=by
   have:=h x
   rw[List.count_cons_self] at this
   exact List.count_pos_iff.1 (by omega)
  have h2:=count_len a (b.erase x) fun y=>by
   have:=h y
   rw[List.count_cons] at this
   by_cases e:x=y
   ·subst e
    rw[List.count_erase_self]
    simp only[BEq.rfl,if_true] at this
    omega
   ·rw[List.count_erase_of_ne (Ne.symm e)]
    omega
  rw[List.length_erase_of_mem hx] at h2
  have:=List.length_pos_of_mem hx
  rw[List.length_cons]
  omega
structure Okay (x:Trm) (cs:List Dat):Prop where
 wf:∃nk fr sc,wf cs.length nk fr x sc=true
 all:x.all≤1000
 bnd:x.bnd.length≤2000000
 few:cs.length+x.all≤100000
variable {F : Int → List Dat → Option Dat} {op n : Int} {v : List Int} {t : List Trm} {cs : List Dat}
theorem allL_take:∀{l:List Trm} {j:Nat} {y:Trm},l[j]?=some y→allL (l.take j)+y.all≤allL l
 | [],j,y,h=>by simp at h
 | x::l,0,y,h=>by
  obtain rfl:x=y:=by simpa using h
  simp only[List.take_zero,allL];omega
 | x::l,j+1,y,h=>by
  have:=allL_take (l:=l) (j:=j) (y:=y) (by simpa using h)
  simp only[List.take_succ_cons,allL];omega
theorem Okay.step (h:Okay (Trm.mk op n v t) cs) {j:Nat} {y:Trm} (hy:t[j]?=some y):Okay y (termL F (t.take j) cs).2:=by
 obtain ⟨⟨nk,fr,sc,hw⟩,h1,h2,h3⟩:=h
 obtain ⟨_,_,_,k3⟩:=wf_open hw
 have hm:=List.mem_of_getElem? hy
 obtain ⟨s,hs⟩:=wf_each k3 y hm
 rw[Trm.all] at h1 h3
 have e1:=allL_mem hm
 have e2:=allL_take hy
 have e3:=termL_few F (t.take j) cs
 refine ⟨⟨nk,fr,s,wf_more (pre_len (termL_more F (t.take j) cs)) hs⟩,by omega,?_,by omega⟩
 have:y.bnd.length≤(bndL t).length:=count_len _ _ fun a=>bnd_mem a hm
 rw[Trm.bnd,List.length_append] at h2
 omega
theorem Okay.parts (h:Okay (Trm.mk op n v t) cs):(∃nk fr sc,Trm.wf (termL F t cs).2.length nk fr (Trm.mk op n v (termL F t cs).1) sc=true)∧allL (termL F t cs).1+1≤1000∧v.length+(bndL (termL F t cs).1).length≤2000000∧(termL F t cs).2.length+1≤100000:=by
 obtain ⟨⟨nk,fr,sc,hw⟩,h1,h2,h3⟩:=h
 obtain ⟨k0,k1,k2,k3⟩:=wf_open hw
 rw[Trm.all] at h1 h3
 have hn:=(wf_neat _ _ hw).1
 have e1:=termL_small F t cs (neatL_iff.2 (neat_parts hn))
 have e3:=termL_few F t cs
 have e2:(bndL (termL F t cs).1).length≤(bndL t).length:=count_len _ _ fun a=>termL_bnd F a t cs cs List.prefix_rfl (wf_each k3)
 rw[Trm.bnd,List.length_append] at h2
 have hlen:=termL_len F t cs
 exact ⟨⟨nk,fr,sc,wf_close k0 (by rw[hlen];exact k1) (number_mono (pre_len (termL_more F t cs)) (fun _ h=>h) k2) (wfL_two (termL_two F t cs cs List.prefix_rfl _ (Int.le_refl _)) k3)⟩,by omega,by omega,by omega⟩
theorem wf_const {nc nk:Int} {fr:Bool} {x:Trm} {sc:Int→Bool} (h:wf nc nk fr x sc=true) (h0:x.op=0):0≤x.n∧x.n<nc:=by
 obtain ⟨o,n,v,t⟩:=x
 replace h0:o=0:=h0
 subst h0
 obtain ⟨_,_,k2,_⟩:=wf_open h
 show 0≤n∧n<nc
 simpa[numberB] using k2
theorem wf_consts {nc nk:Int} {fr:Bool} {o n:Int} {v:List Int} {t:List Trm} {sc:Int→Bool} (h:wf nc nk fr (mk o n v t) sc=true):∀x∈t,x.op=0→0≤x.n∧x.n<nc:=fun x hx h0=>by
 obtain ⟨_,_,_,k3⟩:=wf_open h
 obtain ⟨s,hs⟩:=wf_each k3 x hx
 exact wf_const hs h0
theorem wf_lam {nc nk:Int} {fr:Bool} {x:Trm} {sc:Int→Bool} (h:wf nc nk fr x sc=true) (h4:x.op=4):∃b,x.t=[b]:=by
 obtain ⟨o,n,v,t⟩:=x
 replace h4:o=4:=h4
 subst h4
 obtain ⟨_,k1,_,_⟩:=wf_open h
 have h1:t.length=1:=by simpa[countsB] using k1
 exact List.length_eq_one_iff.1 h1
theorem wf_if {nc nk:Int} {fr:Bool} {n:Int} {v:List Int} {t:List Trm} {sc:Int→Bool} (h:wf nc nk fr (mk 3 n v t) sc=true):∃a b c,t=[a,b,c]:=by
 obtain ⟨_,k1,_,_⟩:=wf_open h
 have h3:t.length=3:=by
  simp[countsB] at k1
  exact k1.2
 match t,h3 with
 | [a,b,c],_=>exact ⟨a,b,c,rfl⟩
theorem wf_app {nc nk:Int} {fr:Bool} {n:Int} {v:List Int} {t:List Trm} {sc:Int→Bool} (h:Trm.wf nc nk fr (Trm.mk 5 n v t) sc=true):∃a r,t=a::r:=by
 obtain ⟨_,k1,_,_⟩:=wf_open h
 simp[countsB] at k1
 cases t with
 | nil=>simp at k1
 | cons a r=>exact ⟨a,r,rfl⟩
theorem wf_let {nc nk:Int} {fr:Bool} {n:Int} {v:List Int} {t:List Trm} {sc:Int→Bool} (h:Trm.wf nc nk fr (Trm.mk 8 n v t) sc=true):t.length=v.length+1:=by
 obtain ⟨_,k1,_,_⟩:=wf_open h
 simpa[countsB] using k1
theorem wf_fix {nc nk:Int} {fr:Bool} {n:Int} {v:List Int} {t:List Trm} {sc:Int→Bool} (h:Trm.wf nc nk fr (Trm.mk 9 n v t) sc=true):t.length=v.length+1:=by
 obtain ⟨_,k1,_,_⟩:=wf_open h
 simpa[countsB] using k1
theorem wf_check {nc nk:Int} {fr:Bool} {n:Int} {v:List Int} {t:List Trm} {sc:Int→Bool} (h:Trm.wf nc nk fr (Trm.mk 12 n v t) sc=true):∃a,t=[a]:=by
 obtain ⟨_,k1,_,_⟩:=wf_open h
 have h3:t.length=1:=by
  simp[countsB] at k1
  exact k1.2
 exact List.length_eq_one_iff.1 h3
theorem wf_seqs {nc nk:Int} {fr:Bool} {o n:Int} {v:List Int} {t:List Trm} {sc:Int→Bool} (h:Trm.wf nc nk fr (Trm.mk o n v t) sc=true):∀y∈t,y.op=6→y.t≠[]:=fun y hy h6=>by
 obtain ⟨_,_,_,k3⟩:=wf_open h
 obtain ⟨s,hs⟩:=wf_each k3 y hy
 exact op_seq hs h6
theorem wf_lams {nc nk:Int} {fr:Bool} {o n:Int} {v:List Int} {t:List Trm} {sc:Int→Bool} (h:Trm.wf nc nk fr (Trm.mk o n v t) sc=true):∀y∈t,y.op=4→∃b,y.t=[b]:=fun y hy h6=>by
 obtain ⟨_,_,_,k3⟩:=wf_open h
 obtain ⟨s,hs⟩:=wf_each k3 y hy
 exact wf_lam hs h6
theorem post_cs {F:Int→List Dat→Option Dat} {o n:Int} {v:List Int} {t:List Trm} {cs:List Dat} (h5:o≠5) (h10:o≠10):post F o n v t cs=((post F o n v t cs).1,cs):=by
 unfold post
 rw[if_neg h5]
 repeat' split
 all_goals first | rfl | exact absurd (by assumption) h10
theorem post_out {F:Int→List Dat→Option Dat} {o n:Int} {v:List Int} {t:List Trm} {cs:List Dat} (h5:o≠5) (h3:o≠3) (h10:o≠10) (h6:o≠6) (h8:o≠8) (h9:o≠9) (h12:o≠12):post F o n v t cs=(Trm.mk o n v t,cs):=by
 unfold post
 rw[if_neg h5,if_neg h3,if_neg h10,if_neg h6,if_neg h8,if_neg h9,if_neg h12]
theorem post_fix {F:Int→List Dat→Option Dat} {n:Int} {v:List Int} {t:List Trm} {cs:List Dat} {last:Trm} (h:t[v.length]?=some last):post F 9 n v t cs=(if v.any (fun x=>named x last)=true then Trm.mk 9 n v t else last,cs):=by
 unfold post
 rw[if_neg (by decide),if_neg (by decide),if_neg (by decide),if_neg (by decide),if_neg (by decide),if_pos rfl,h]
 dsimp only
 split<;>rfl
theorem post_check {F:Int→List Dat→Option Dat} {n:Int} {v:List Int} {a:Trm} {cs:List Dat}:post F 12 n v [a] cs=(if value a=true then a else Trm.mk 12 n v [a],cs):=by
 unfold post
 rw[if_neg (by decide),if_neg (by decide),if_neg (by decide),if_neg (by decide),if_neg (by decide),if_neg (by decide),if_pos rfl]
 dsimp only
 split<;>rfl
end Fd
end
end Go.Proofs.YtgbibibmpoekiaaGreatDoor
