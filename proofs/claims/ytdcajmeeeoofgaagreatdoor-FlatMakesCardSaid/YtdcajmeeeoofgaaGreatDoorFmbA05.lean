/- .. -/
import Derived.Deep.LoopGhost
import Derived.OwnWalk
import Derived.IntWalk
import Derived.Laws.OwnMore
import Derived.BigRegion
import Derived.Maps.Own
import Derived.Maps.OwnOps
import Derived.Maps.Views
import Derived.Laws.AppendOwn
import Derived.Laws.AppendOwnNone
import Derived.Test.YtdcajmeeeoofgaaGreatDoorFmbA04
open Go.Proofs.Tryz
set_option maxRecDepth 100000
set_option maxHeartbeats 16000000
namespace Go.Proofs.YtdcajmeeeoofgaaGreatDoor
section
open Go
section
variable {P : Program} {ops : Array Oper} {md : Region.Mode} {C : World → Prop}
def coneB (md:Region.Mode) (ops:Array Oper) (n:Nat):Bool:=(List.range ops.size).all fun t=>decide (t≤n) || (List.range t).any fun s=>decide (n≤s)&&Region.waitsFor md ops t s
theorem zds {n:Nat} {listed:Array Bool} (hs:Region.sinkB md ops n=true) (hc:coneB md ops n=true) (hn:n<ops.size) (inv:HeadInv md ops n listed) :
  ∀(d i:Nat),n-i=d→i<n→listed.getD i true=false→∀t,n≤t→t∉Region.ready md ops listed:=by
 intro d
 induction d using Nat.strongRecOn with
 | _ d ih=>
  intro i hd hi hun t ht hr
  obtain ⟨_,ot,hot,hall⟩:=mem_ready.1 hr
  have htlt:t<ops.size:=(Array.getElem?_eq_some_iff.1 hot).1
  by_cases htn:t=n
  ·subst htn
   have h1:=List.all_eq_true.1 hs i (List.mem_range.2 hi)
   obtain ⟨j,hj,hj2⟩:=List.any_eq_true.1 h1
   simp only[Bool.and_eq_true,decide_eq_true_eq] at hj2
   obtain ⟨oj,hoj,e,he,hb,hon⟩:=Region.waitsFor_spec hj2.2
   have hjle:j≤t:=by have:=List.mem_range.1 hj;omega
   by_cases hjt:j=t
   ·subst hjt
    have:oj=ot:=Option.some.inj (hoj.symm.trans hot)
    subst this
    have h2:=hall e he hb
    rw[hon,getD_both hun] at h2
    cases h2
   ·cases hl:listed.getD j false with
    | true=>
     have h2:=inv.closed j oj hoj hl e he hb
     rw[hon,getD_both hun] at h2
     cases h2
    | false=>
     have hjs:j<listed.size:=by rw[inv.size];omega
     exact ih (t-j) (by omega) j rfl (by omega) (getD_in hjs hl) t (Nat.le_refl _) hr
  ·have h1:=List.all_eq_true.1 hc t (List.mem_range.2 htlt)
   simp only[Bool.or_eq_true,decide_eq_true_eq] at h1
   rcases h1 with h1 | h1
   ·omega
   ·obtain ⟨s,hs',h2⟩:=List.any_eq_true.1 h1
    simp only[Bool.and_eq_true,decide_eq_true_eq] at h2
    obtain ⟨o',ho',e,he,hb,hon⟩:=Region.waitsFor_spec h2.2
    have:o'=ot:=Option.some.inj (ho'.symm.trans hot)
    subst this
    have h3:=hall e he hb
    have:=List.mem_range.1 hs'
    rw[hon,getD_both (inv.tail s h2.1 (by omega))] at h3
    cases h3
theorem zie {n i:Nat} {oi:Oper} {v:Value} {L:Array Bool→Act→Prop} (hi:ops[i]?=some oi) (hsel:∀(j:Nat) (o:Oper) cs b,ops[j]?=some o→o.op≠.select cs b)
  (hs:Region.sinkB md ops n=true) (hc:coneB md ops n=true) (hn:n<ops.size) (hin:i<n) (hdone:∀listed a,L listed a→∀j∈Region.ready md ops listed,n≤j) :
  ∀(f:Nat) (listed:Array Bool) (a:Act),HeadInv md ops n listed →
   (∀j oj,ops[j]?=some oj→j≠i→listed.getD j true=false→(∀e∈oj.after,Region.binds md e=true→e.on≠i)→oi.apart ops oj=true) →
   i∈Region.ready md ops listed→YieldsIn P ops C oi v a →
   headAny P md ops C n L f (listed.setIfInBounds i true) (a.put oi.dst v)→headAny P md ops C n L (f+1) listed a:=by
 intro f
 induction f with
 | zero=>
  intro listed a inv _ hr hy H
  have hun:=(mem_ready.1 hr).1
  refine ⟨fun h=>(by rw[h] at hr;cases hr),fun j hj=>?_⟩
  have hjn:j<n:=by
   rcases Nat.lt_or_ge j n with h | h
   ·exact h
   ·exact absurd hj (zds hs hc hn inv _ i rfl hin hun j h)
  refine ⟨hjn,?_⟩
  by_cases hji:j=i
  ·subst hji;exact hy.qOp hi H
  ·have:=hdone _ _ H j (ready_mono hj hji)
   omega
 | succ f ih=>
  intro listed a inv hfree hr hy H
  have hun:=(mem_ready.1 hr).1
  refine ⟨fun h=>(by rw[h] at hr;cases hr),fun j hj=>?_⟩
  have hjn:j<n:=by
   rcases Nat.lt_or_ge j n with h | h
   ·exact h
   ·exact absurd hj (zds hs hc hn inv _ i rfl hin hun j h)
  refine ⟨hjn,?_⟩
  by_cases hji:j=i
  ·subst hji;exact hy.qOp hi H
  ·have h1:=(H.2 j (ready_mono hj hji)).2
   obtain ⟨hjun,oj,hoj,hall⟩:=mem_ready.1 hj
   have hnot:∀e∈oj.after,Region.binds md e=true→e.on≠i:=fun e he hb heq=>by
    have h1:=hall e he hb
    rw[heq,getD_both hun] at h1
    cases h1
   have h2:=qOp_put hoj (hfree j oj hoj hji hjun hnot) (fun cs b=>hsel i oi cs b hi) (fun cs b=>hsel j oj cs b hoj) hy h1
   have hfree':∀k ok,ops[k]?=some ok→k≠i→(listed.setIfInBounds j true).getD k true=false→(∀e∈ok.after,Region.binds md e=true→e.on≠i)→oi.apart ops ok=true:=fun k ok hk hki hunk hno=>by
    refine hfree k ok hk hki ?_ hno
    by_cases hjk:j=k
    ·subst hjk;exact hjun
    ·rw[getD_set_ne true hjk] at hunk;exact hunk
   refine qOp_mono (fun a' h3=>ih (listed.setIfInBounds j true) a' (inv.set hj hjn) hfree' (ready_mono hr (Ne.symm hji)) h3.1 ?_) h2
   rw[Array.setIfInBounds_comm _ _ hji]
   exact h3.2
def lexMid (md:Region.Mode) (ops:Array Oper) (g:Nat):Nat→Nat→Array Bool→Bool
 | 0,k,listed=>decide (Region.ready md ops listed=[k])&&Region.lexFrom md ops g (k+1) (listed.setIfInBounds k true)
 | f+1,k,listed=>(Region.ready md ops listed).contains k&&Region.free md ops listed k&&lexMid md ops g f (k+1) (listed.setIfInBounds k true)
def lexMidB (md:Region.Mode) (ops:Array Oper) (n:Nat):Bool:=
 Region.noSelect ops&&decide (n<ops.size)&&Region.sinkB md ops n&&coneB md ops n&&lexMid md ops (ops.size-n-1) n 0 (Array.replicate ops.size false)
theorem zhD {n g:Nat} {Lq:Act→Prop} (hsel:Region.noSelect ops=true) (hs:Region.sinkB md ops n=true) (hc:coneB md ops n=true) (hn:n<ops.size) :
  ∀(l:List Oper) (k:Nat) (listed:Array Bool) (a:Act),(∀j,j<l.length→l[j]?=ops[k+j]?)→k+l.length=n→HeadInv md ops n listed →
  lexMid md ops g l.length k listed=true→wpQuiet P ops C Lq l a →
  headAny P md ops C n (fun listed' a'=>(Region.ready md ops listed'=[n]∧Region.lexFrom md ops g (n+1) (listed'.setIfInBounds n true)=true)∧Lq a') l.length listed a
 | [],k,listed,a,_,hk,_,hB,h=>by
  have:k=n:=by simpa using hk
  subst this
  exact ⟨by simpa[lexMid] using hB,h⟩
 | o::l,k,listed,a,hl,hk,inv,hB,h=>by
  have h0:ops[k]?=some o:=by simpa using (hl 0 (by simp)).symm
  simp only[List.length_cons,lexMid,Bool.and_eq_true] at hB
  obtain ⟨⟨hr,hf⟩,hB'⟩:=hB
  have hkn:k<n:=by simp only[List.length_cons] at hk;omega
  have hr':k∈Region.ready md ops listed:=by simpa using hr
  have hst:qOp P ops C k (wpQuiet P ops C Lq l) a:=by unfold qOp;simp only[h0];exact h
  obtain ⟨v,hy,hK⟩:=yieldsIn_of_qOp h0 hst
  exact zie h0 (Region.noSelect_spec hsel) hs hc hn hkn (fun listed' a' hL j hj=>by rw[hL.1.1] at hj;simp at hj;omega) l.length listed a inv (Region.free_spec h0 hf) hr' hy
   (zhD hsel hs hc hn l (k+1) _ _ (fun j hj=>by have:=hl (j+1) (by simp;omega);simpa[Nat.add_assoc,Nat.add_comm 1 j] using this) (by simp only[List.length_cons] at hk;omega) (inv.set hr' hkn) hB' hK)
theorem zdq {o:Oper} {a:Act} {w:World} {v:Value} (h:(execOp a.eval o).run P w=.ok (.value v) w):o.quietAt P a C w v:=by
 unfold Oper.quietAt
 rw[h]
 exact ⟨rfl,rfl⟩
def MidPost (P:Program) (ops:Array Oper) (Q:Exit→Act→World→Prop) (rest:List Oper) (e:Exit) (a:Act) (w:World):Prop:=
 e=.normal∧∃D:World→Prop,D w∧wpQuiet P ops D (fun a'=>∀w',D w'→Q .normal a' w') rest a
theorem zfA {Q:Exit→Act→World→Prop} {K:Act→World→Prop} {i:Nat} {o:Oper} {a:Act} {w:World} (ho:ops[i]?=some o) (h:wpList P ops (fun e a' w'=>e=.normal∧K a' w') [o] a w):wpOp P ops Q i K a w:=by
 unfold wpOp
 simp only[ho]
 by_cases hw:Region.wanted o (yielded ops a.tmps)=true
 ·rw[if_pos hw]
  exact .inl (zbn (ops:=ops) hw h)
 ·unfold wpList at h
  rw[if_neg hw] at h ⊢
  exact h.2
theorem zdJ {id:Nat} {Q:Exit→Act→World→Prop} {a:Act} {w:World} {l:List Oper} (C:World→Prop) (n:Nat) (hm:P.follows .mixedOrders=true) (hB:lexMidB .any l.toArray n=true) (hC:C w.drew)
  (h:wpQuiet P l.toArray C (fun a'=>∀w',C w'→wpList P l.toArray (MidPost P l.toArray Q (l.drop (n+1))) ((l.drop n).take 1) a' w') (l.take n) a):(Code.region id l.toArray true).wp P Q a w:=by
 simp only[lexMidB,Bool.and_eq_true,decide_eq_true_eq] at hB
 obtain ⟨⟨⟨⟨hsel,hn⟩,hs⟩,hc⟩,hlex⟩:=hB
 have hn':n<l.length:=by simpa using hn
 have htl:(l.take n).length=n:=by simp;omega
 have hdl:(l.drop (n+1)).length=l.toArray.size-n-1:=by simp;omega
 obtain ⟨o,ho⟩:∃o,l[n]?=some o:=⟨_,List.getElem?_eq_getElem hn'⟩
 have ho1:(l.drop n).take 1=[o]:=by
  rw[List.drop_eq_getElem_cons hn']
  rw[List.getElem?_eq_getElem hn'] at ho
  simp only[Option.some.injEq] at ho
  simp[ho]
 have inv0:HeadInv .any l.toArray n (Array.replicate l.toArray.size false):=
  ⟨by simp,fun j oj _ hl=>(by rw[getD_replicate_false] at hl;cases hl),fun t _ ht=>getD_in (by simpa using ht) (getD_replicate_false _ _)⟩
 have H:=zhD (md:=.any) (g:=l.toArray.size-n-1) hsel hs hc hn (l.take n) 0 _ a (fun j hj=>by
  have hj':j<n:=by rw[htl] at hj;exact hj
  simp[hj']) (by simpa using htl) inv0 (by rw[htl];exact hlex) h
 refine wp_region_any hm ?_
 have:=zbO (Q':=Q) (g:=(l.toArray.size-n-1)+1) (fun listed a' w' hC' hL=>by
  obtain ⟨⟨hr,hlx⟩,hL⟩:=hL
  refine ⟨fun h0=>(by rw[h0] at hr;cases hr),fun i hi=>?_⟩
  rw[hr] at hi
  obtain rfl:i=n:=by simpa using hi
  have h1:=hL w' hC'
  rw[ho1] at h1
  have h2:wpList P l.toArray (fun e a2 w2=>e=.normal∧∃D:World→Prop,D w2∧wpQuiet P l.toArray D (fun a3=>∀w3,D w3→Q .normal a3 w3) (l.drop (i+1)) a2) [o] a' w':=h1
  refine wpOp_mono (fun a2 w2 hK=>?_) (zfA (o:=o) (by simpa using ho) h2)
  obtain ⟨D,hD,hq⟩:=hK
  have h3:=wpAnyQ_lex (C:=D) (md:=.any) hsel (l.drop (i+1)) (i+1) (listed.setIfInBounds i true) a2 (fun j=>by simp[List.getElem?_drop]) (by rw[hdl];exact hlx) hq
  rw[hdl] at h3
  exact wpAny_of_quiet (Q:=fun a3=>∀w3,D w3→Q .normal a3 w3) (fun _ w3 hw3 h=>h w3 hw3) _ _ _ _ hD h3) _ _ _ _ hC H
 rw[htl,show n+(l.toArray.size-n-1+1)=l.toArray.size by omega] at this
 exact this
theorem zfe {C:World→Prop}:(fun w':World=>∃t:{ w':World // C w' },w'=t.1)=C:=by
 funext w'
 exact propext ⟨fun ⟨t,ht⟩=>ht ▸ t.2,fun hw=>⟨⟨w',hw⟩,rfl⟩⟩
theorem zaK {id:Nat} {Q:Exit→Act→World→Prop} {a:Act} {w:World} {l:List Oper} (C:World→Prop) (n:Nat) (hm:P.follows .mixedOrders=true) (hB:lexMidB .any l.toArray n=true) (hC:C w.drew)
  (h:∀(T:Type) [Nonempty T] (W:T→World),(∀t,C (W t))→(∀w',C w'→∃t,w'=W t)→wpQuiet P l.toArray (fun w'=>∃t,w'=W t) (fun a'=>∀t,wpList P l.toArray (MidPost P l.toArray Q (l.drop (n+1))) ((l.drop n).take 1) a' (W t)) (l.take n) a):(Code.region id l.toArray true).wp P Q a w:=by
 haveI:Nonempty { w':World // C w' }:=⟨⟨_,hC⟩⟩
 have h1:=h { w':World // C w' } (fun t=>t.1) (fun t=>t.2) (fun w' hw=>⟨⟨w',hw⟩,rfl⟩)
 rw[zfe] at h1
 refine zdJ C n hm hB hC ?_
 have e2:(fun a'=>∀w',C w'→wpList P l.toArray (MidPost P l.toArray Q (l.drop (n+1))) ((l.drop n).take 1) a' w')=(fun a'=>∀t:{ w':World // C w' },wpList P l.toArray (MidPost P l.toArray Q (l.drop (n+1))) ((l.drop n).take 1) a' t.1):=by
  funext a'
  exact propext ⟨fun h t=>h t.1 t.2,fun h w' hw=>h ⟨w',hw⟩⟩
 rw[e2]
 exact h1
theorem zcu {Q:Exit→Act→World→Prop} {a:Act} {w:World} {rest:List Oper} (C:World→Prop) (hC:C w)
  (h:∀(T:Type) [Nonempty T] (W:T→World),(∀t,C (W t))→(∀w',C w'→∃t,w'=W t)→wpQuiet P ops (fun w'=>∃t,w'=W t) (fun a'=>∀t,Q .normal a' (W t)) rest a):MidPost P ops Q rest .normal a w:=by
 haveI:Nonempty { w':World // C w' }:=⟨⟨_,hC⟩⟩
 have h1:=h { w':World // C w' } (fun t=>t.1) (fun t=>t.2) (fun w' hw=>⟨⟨w',hw⟩,rfl⟩)
 rw[zfe] at h1
 refine ⟨rfl,C,hC,?_⟩
 have e2:(fun a'=>∀w',C w'→Q .normal a' w')=(fun a'=>∀t:{ w':World // C w' },Q .normal a' t.1):=by
  funext a'
  exact propext ⟨fun h t=>h t.1 t.2,fun h w' hw=>h ⟨w',hw⟩⟩
 rw[e2]
 exact h1
end
end
section
open Go.RowKit
end
section
open Go.RowKit
end
section
open Go.RowKit
def Five (w:World) (b:Nat) (v0 v1 v2 v3 v4:Value):Prop:=
 w.cell? ⟨b,0,none⟩=some v0∧w.cell? ⟨b,1,none⟩=some v1∧w.cell? ⟨b,2,none⟩=some v2∧w.cell? ⟨b,3,none⟩=some v3∧w.cell? ⟨b,4,none⟩=some v4
end
section
open Go.RowKit
theorem za6 (n m:Int) (r:Bool) (hr:Unt.below n m=r) (w:World):Calls prog 52 #[.int .i64 n,.int .i64 m] w fun e w'=>e=.returned (.bool r)∧w'=w:=by
 by_cases h0:0≤n
 ·by_cases h1:n<m
  ·obtain rfl:true=r:=by rw[←hr];simp[Unt.below,h0,h1]
   clear hr
   go_enter func52,ntmps52
   go_wp2_with fail
   go_ret
   exact ⟨rfl,rfl⟩
  ·obtain rfl:false=r:=by rw[←hr];simp[Unt.below,h1]
   have h1':decide (n<m)=false:=decide_eq_false h1
   clear hr h1
   go_enter func52,ntmps52
   go_wp2_with fail
   go_ret
   exact ⟨rfl,rfl⟩
 ·obtain rfl:false=r:=by rw[←hr];simp[Unt.below,h0]
  have h0':decide (0≤n)=false:=decide_eq_false h0
  clear hr h0
  go_enter func52,ntmps52
  go_wp2_with fail
  go_ret
  exact ⟨rfl,rfl⟩
theorem zaj (has:Bool) (n regs:Int) (r:Bool) (hr:Unt.regB has n regs=r) (pb:Nat) (w:World) (hc:w.cell? ⟨pb,2,none⟩=some (.int .i64 regs)):Calls prog 51 #[.bool has,.int .i64 n,.pointer (some ⟨pb,0,none⟩)] w fun e w'=>e=.returned (.bool r)∧w'=w:=by
 have HR:=zh hr
 clear hr
 cases has with
 | true=>
  have HB:=zh (show Unt.below n regs=r from by rw[←HR.out];simp[Unt.regB])
  go_enter func51,ntmps51
  go_wp2_with fail
  refine (za6 n regs r HB.out _).mono ?_
  rintro e w' ⟨rfl,rfl⟩
  go_wp2_with fail
  go_ret
  exact ⟨rfl,rfl⟩
 | false=>
  by_cases hn:n=0
  ·subst hn
   obtain rfl:true=r:=HR.out
   go_enter func51,ntmps51
   go_wp2_with fail
   go_ret
   exact ⟨rfl,rfl⟩
  ·have hn':(n==0)=false:=by simpa using hn
   obtain rfl:false=r:=by rw[←HR.out];simp[Unt.regB,hn]
   go_enter func51,ntmps51
   go_wp2_with fail
   go_ret
   exact ⟨rfl,rfl⟩
theorem zkW (n regs:Int) (r:Bool) (hr:Unt.below n regs=r) (pb:Nat) (w:World) (hc:w.cell? ⟨pb,2,none⟩=some (.int .i64 regs)):Calls prog 54 #[.int .i64 n,.pointer (some ⟨pb,0,none⟩)] w fun e w'=>e=.returned (.bool (!r))∧w'=w:=by
 go_enter func54,ntmps54
 go_wp2_with fail
 refine (za6 n regs r hr _).mono ?_
 rintro e w' ⟨rfl,rfl⟩
 go_wp2_with fail
 go_ret
 exact ⟨rfl,rfl⟩
def FitsC (k:Int):Prop:=∀(d a b:Int) (l:List Int) (o:Option Addr) (len cap:Nat) (args regs:Int) (rest:Bool) (oc oa ok op:Option Addr) (lc cc la ca lk ck lp cp:Nat) (B:Nat) (w:World) (_:-9223372036854775808≤a∧a≤9223372036854775807) (_:SlC w B 1 IntR l (.slice o len cap)) (_:B≤w.heap.size) (r:Bool),Unt.fits ⟨k,d,a,b,l⟩ regs lc lp lk=r →
  Calls prog 27 #[.agg #[.int .i64 k,.int .i64 d,.int .i64 a,.int .i64 b,.slice o len cap],.agg #[.int .i64 args,.bool rest,.int .i64 regs,.slice oc lc cc,.slice oa la ca],.agg #[.slice ok lk ck,.slice op lp cp]] w fun e w'=>e=.returned (.bool r)∧Below w.heap.size w w'
theorem zau {W:World} {A B C:Nat} {t u v:TypeId} {x0 x1 x2 x3 x4 p0 p1 p2 p3 p4 u0 u1:Value} (bx:BoxL W A t [x0,x1,x2,x3,x4]) (bp:BoxL W B u [p0,p1,p2,p3,p4]) (bu:BoxL W C v [u0,u1]) :
  W.cell? ⟨A,0,none⟩=some x0∧W.cell? ⟨A,1,none⟩=some x1∧W.cell? ⟨A,2,none⟩=some x2∧W.cell? ⟨A,3,none⟩=some x3∧W.cell? ⟨A,4,none⟩=some x4∧W.cell? ⟨B,0,none⟩=some p0∧W.cell? ⟨B,1,none⟩=some p1∧W.cell? ⟨B,2,none⟩=some p2∧W.cell? ⟨B,3,none⟩=some p3∧W.cell? ⟨C,0,none⟩=some u0∧W.cell? ⟨C,1,none⟩=some u1:=
 ⟨bx.cell 0 rfl,bx.cell 1 rfl,bx.cell 2 rfl,bx.cell 3 rfl,bx.cell 4 rfl,bp.cell 0 rfl,bp.cell 1 rfl,bp.cell 2 rfl,bp.cell 3 rfl,bu.cell 0 rfl,bu.cell 1 rfl⟩
theorem zax {w w1:World} {l:List Int} {o:Option Addr} {len cap B:Nat} {regs:Int} {rI:Bool} (hB:B≤w.heap.size) (z0:w.heap.size<w1.heap.size) (HV:SlC w B 1 IntR l (.slice o len cap)) (HB:Below w.heap.size w w1) (HP2:∀X,(w1.alloc X).cell? ⟨w.heap.size+1,2,none⟩=some (.int .i64 regs)) (HrI:l.all (Unt.below · regs)=rI) (X:Obj) :
  Calls prog 53 #[.slice o len cap,.func (.func 54) #[] #[.pointer (some ⟨w.heap.size+1,0,none⟩)]] (w1.alloc X) fun e w'=>e=.returned (.bool (!rI))∧Below (w1.alloc X).heap.size (w1.alloc X) w':=
 zdO IntR 54 #[.pointer (some ⟨w.heap.size+1,0,none⟩)] (fun n=>!Unt.below n regs) (!rI) l (.slice o len cap) B (w1.alloc X) (HV.kept ((HB.alloc (by omega) X).mono hB) fun _ _ _ h=>h) (by simp;omega) (fun _ _=>rfl) (fun n _ c0 W hR hbW=>by
  obtain ⟨hc0,_,_⟩:=hR
  obtain rfl:c0=.int .i64 n:=by simpa using hc0
  exact (zkW n regs _ rfl (w.heap.size+1) W (keepC hbW (HP2 X))).mono fun e w' h=>⟨h.1,by rw[h.2];exact Below.refl _ _⟩) (by rw[←HrI,←List.not_all_eq_any_not])
theorem zk7 (w:World):Calls prog 50 #[.int .i64 0] w fun e w'=>e=.returned (.tuple #[.agg #[.bool true,.bool false,.bool false,.bool false,.bool true,.bool false],.bool true])∧Below w.heap.size w w':=by
 go_enter func50,ntmps50
 go_wp2_with fail
 exact bodyPost_ret (v:=.tuple #[.agg #[.bool true,.bool false,.bool false,.bool false,.bool true,.bool false],.bool true]) (by simp[results,results50,go_sem]) rfl ⟨rfl,Below.one _ _⟩
theorem zlx (w:World):Calls prog 50 #[.int .i64 1] w fun e w'=>e=.returned (.tuple #[.agg #[.bool true,.bool true,.bool false,.bool false,.bool false,.bool false],.bool true])∧Below w.heap.size w w':=by
 go_enter func50,ntmps50
 go_wp2_with fail
 exact bodyPost_ret (v:=.tuple #[.agg #[.bool true,.bool true,.bool false,.bool false,.bool false,.bool false],.bool true]) (by simp[results,results50,go_sem]) rfl ⟨rfl,Below.one _ _⟩
theorem zlC (w:World):Calls prog 50 #[.int .i64 2] w fun e w'=>e=.returned (.tuple #[.agg #[.bool true,.bool false,.bool false,.bool false,.bool true,.bool false],.bool true])∧Below w.heap.size w w':=by
 go_enter func50,ntmps50
 go_wp2_with fail
 exact bodyPost_ret (v:=.tuple #[.agg #[.bool true,.bool false,.bool false,.bool false,.bool true,.bool false],.bool true]) (by simp[results,results50,go_sem]) rfl ⟨rfl,Below.one _ _⟩
theorem zlu (w:World):Calls prog 50 #[.int .i64 3] w fun e w'=>e=.returned (.tuple #[.agg #[.bool true,.bool false,.bool false,.bool false,.bool false,.bool false],.bool true])∧Below w.heap.size w w':=by
 go_enter func50,ntmps50
 go_wp2_with fail
 exact bodyPost_ret (v:=.tuple #[.agg #[.bool true,.bool false,.bool false,.bool false,.bool false,.bool false],.bool true]) (by simp[results,results50,go_sem]) rfl ⟨rfl,Below.one _ _⟩
theorem zlU (w:World):Calls prog 50 #[.int .i64 4] w fun e w'=>e=.returned (.tuple #[.agg #[.bool true,.bool false,.bool false,.bool false,.bool false,.bool false],.bool true])∧Below w.heap.size w w':=by
 go_enter func50,ntmps50
 go_wp2_with fail
 exact bodyPost_ret (v:=.tuple #[.agg #[.bool true,.bool false,.bool false,.bool false,.bool false,.bool false],.bool true]) (by simp[results,results50,go_sem]) rfl ⟨rfl,Below.one _ _⟩
theorem zlS (w:World):Calls prog 50 #[.int .i64 5] w fun e w'=>e=.returned (.tuple #[.agg #[.bool true,.bool false,.bool false,.bool false,.bool true,.bool false],.bool true])∧Below w.heap.size w w':=by
 go_enter func50,ntmps50
 go_wp2_with fail
 exact bodyPost_ret (v:=.tuple #[.agg #[.bool true,.bool false,.bool false,.bool false,.bool true,.bool false],.bool true]) (by simp[results,results50,go_sem]) rfl ⟨rfl,Below.one _ _⟩
theorem zlq (w:World):Calls prog 50 #[.int .i64 6] w fun e w'=>e=.returned (.tuple #[.agg #[.bool true,.bool false,.bool false,.bool false,.bool true,.bool false],.bool true])∧Below w.heap.size w w':=by
 go_enter func50,ntmps50
 go_wp2_with fail
 exact bodyPost_ret (v:=.tuple #[.agg #[.bool true,.bool false,.bool false,.bool false,.bool true,.bool false],.bool true]) (by simp[results,results50,go_sem]) rfl ⟨rfl,Below.one _ _⟩
theorem zlk (w:World):Calls prog 50 #[.int .i64 7] w fun e w'=>e=.returned (.tuple #[.agg #[.bool true,.bool false,.bool false,.bool true,.bool true,.bool false],.bool true])∧Below w.heap.size w w':=by
 go_enter func50,ntmps50
 go_wp2_with fail
 exact bodyPost_ret (v:=.tuple #[.agg #[.bool true,.bool false,.bool false,.bool true,.bool true,.bool false],.bool true]) (by simp[results,results50,go_sem]) rfl ⟨rfl,Below.one _ _⟩
theorem zlT (w:World):Calls prog 50 #[.int .i64 8] w fun e w'=>e=.returned (.tuple #[.agg #[.bool false,.bool true,.bool false,.bool true,.bool false,.bool false],.bool true])∧Below w.heap.size w w':=by
 go_enter func50,ntmps50
 go_wp2_with fail
 exact bodyPost_ret (v:=.tuple #[.agg #[.bool false,.bool true,.bool false,.bool true,.bool false,.bool false],.bool true]) (by simp[results,results50,go_sem]) rfl ⟨rfl,Below.one _ _⟩
theorem zlw (w:World):Calls prog 50 #[.int .i64 9] w fun e w'=>e=.returned (.tuple #[.agg #[.bool true,.bool false,.bool false,.bool true,.bool true,.bool false],.bool true])∧Below w.heap.size w w':=by
 go_enter func50,ntmps50
 go_wp2_with fail
 exact bodyPost_ret (v:=.tuple #[.agg #[.bool true,.bool false,.bool false,.bool true,.bool true,.bool false],.bool true]) (by simp[results,results50,go_sem]) rfl ⟨rfl,Below.one _ _⟩
theorem zkj (w:World):Calls prog 50 #[.int .i64 10] w fun e w'=>e=.returned (.tuple #[.agg #[.bool true,.bool true,.bool false,.bool false,.bool false,.bool false],.bool true])∧Below w.heap.size w w':=by
 go_enter func50,ntmps50
 go_wp2_with fail
 exact bodyPost_ret (v:=.tuple #[.agg #[.bool true,.bool true,.bool false,.bool false,.bool false,.bool false],.bool true]) (by simp[results,results50,go_sem]) rfl ⟨rfl,Below.one _ _⟩
theorem zjv (w:World):Calls prog 50 #[.int .i64 11] w fun e w'=>e=.returned (.tuple #[.agg #[.bool true,.bool true,.bool false,.bool false,.bool false,.bool false],.bool true])∧Below w.heap.size w w':=by
 go_enter func50,ntmps50
 go_wp2_with fail
 exact bodyPost_ret (v:=.tuple #[.agg #[.bool true,.bool true,.bool false,.bool false,.bool false,.bool false],.bool true]) (by simp[results,results50,go_sem]) rfl ⟨rfl,Below.one _ _⟩
theorem zjt (w:World):Calls prog 50 #[.int .i64 12] w fun e w'=>e=.returned (.tuple #[.agg #[.bool false,.bool true,.bool true,.bool false,.bool false,.bool false],.bool true])∧Below w.heap.size w w':=by
 go_enter func50,ntmps50
 go_wp2_with fail
 exact bodyPost_ret (v:=.tuple #[.agg #[.bool false,.bool true,.bool true,.bool false,.bool false,.bool false],.bool true]) (by simp[results,results50,go_sem]) rfl ⟨rfl,Below.one _ _⟩
theorem zjP (w:World):Calls prog 50 #[.int .i64 13] w fun e w'=>e=.returned (.tuple #[.agg #[.bool false,.bool true,.bool true,.bool false,.bool false,.bool false],.bool true])∧Below w.heap.size w w':=by
 go_enter func50,ntmps50
 go_wp2_with fail
 exact bodyPost_ret (v:=.tuple #[.agg #[.bool false,.bool true,.bool true,.bool false,.bool false,.bool false],.bool true]) (by simp[results,results50,go_sem]) rfl ⟨rfl,Below.one _ _⟩
theorem zkw (w:World):Calls prog 50 #[.int .i64 14] w fun e w'=>e=.returned (.tuple #[.agg #[.bool true,.bool true,.bool false,.bool false,.bool false,.bool false],.bool true])∧Below w.heap.size w w':=by
 go_enter func50,ntmps50
 go_wp2_with fail
 exact bodyPost_ret (v:=.tuple #[.agg #[.bool true,.bool true,.bool false,.bool false,.bool false,.bool false],.bool true]) (by simp[results,results50,go_sem]) rfl ⟨rfl,Below.one _ _⟩
theorem zjD (w:World):Calls prog 50 #[.int .i64 15] w fun e w'=>e=.returned (.tuple #[.agg #[.bool false,.bool false,.bool false,.bool false,.bool true,.bool false],.bool true])∧Below w.heap.size w w':=by
 go_enter func50,ntmps50
 go_wp2_with fail
 exact bodyPost_ret (v:=.tuple #[.agg #[.bool false,.bool false,.bool false,.bool false,.bool true,.bool false],.bool true]) (by simp[results,results50,go_sem]) rfl ⟨rfl,Below.one _ _⟩
theorem zkd (w:World):Calls prog 50 #[.int .i64 16] w fun e w'=>e=.returned (.tuple #[.agg #[.bool false,.bool true,.bool false,.bool false,.bool false,.bool true],.bool true])∧Below w.heap.size w w':=by
 go_enter func50,ntmps50
 go_wp2_with fail
 exact bodyPost_ret (v:=.tuple #[.agg #[.bool false,.bool true,.bool false,.bool false,.bool false,.bool true],.bool true]) (by simp[results,results50,go_sem]) rfl ⟨rfl,Below.one _ _⟩
theorem ziM (w:World):Calls prog 50 #[.int .i64 17] w fun e w'=>e=.returned (.tuple #[.agg #[.bool true,.bool true,.bool false,.bool true,.bool false,.bool false],.bool true])∧Below w.heap.size w w':=by
 go_enter func50,ntmps50
 go_wp2_with fail
 exact bodyPost_ret (v:=.tuple #[.agg #[.bool true,.bool true,.bool false,.bool true,.bool false,.bool false],.bool true]) (by simp[results,results50,go_sem]) rfl ⟨rfl,Below.one _ _⟩
theorem zj2 (w:World):Calls prog 50 #[.int .i64 18] w fun e w'=>e=.returned (.tuple #[.agg #[.bool true,.bool false,.bool true,.bool true,.bool true,.bool false],.bool true])∧Below w.heap.size w w':=by
 go_enter func50,ntmps50
 go_wp2_with fail
 exact bodyPost_ret (v:=.tuple #[.agg #[.bool true,.bool false,.bool true,.bool true,.bool true,.bool false],.bool true]) (by simp[results,results50,go_sem]) rfl ⟨rfl,Below.one _ _⟩
theorem zjc (w:World):Calls prog 50 #[.int .i64 19] w fun e w'=>e=.returned (.tuple #[.agg #[.bool false,.bool true,.bool false,.bool true,.bool false,.bool false],.bool true])∧Below w.heap.size w w':=by
 go_enter func50,ntmps50
 go_wp2_with fail
 exact bodyPost_ret (v:=.tuple #[.agg #[.bool false,.bool true,.bool false,.bool true,.bool false,.bool false],.bool true]) (by simp[results,results50,go_sem]) rfl ⟨rfl,Below.one _ _⟩
theorem zjE (w:World):Calls prog 50 #[.int .i64 20] w fun e w'=>e=.returned (.tuple #[.agg #[.bool false,.bool false,.bool true,.bool true,.bool true,.bool false],.bool true])∧Below w.heap.size w w':=by
 go_enter func50,ntmps50
 go_wp2_with fail
 exact bodyPost_ret (v:=.tuple #[.agg #[.bool false,.bool false,.bool true,.bool true,.bool true,.bool false],.bool true]) (by simp[results,results50,go_sem]) rfl ⟨rfl,Below.one _ _⟩
theorem zi9 (w:World):Calls prog 50 #[.int .i64 21] w fun e w'=>e=.returned (.tuple #[.agg #[.bool false,.bool false,.bool false,.bool true,.bool true,.bool false],.bool true])∧Below w.heap.size w w':=by
 go_enter func50,ntmps50
 go_wp2_with fail
 exact bodyPost_ret (v:=.tuple #[.agg #[.bool false,.bool false,.bool false,.bool true,.bool true,.bool false],.bool true]) (by simp[results,results50,go_sem]) rfl ⟨rfl,Below.one _ _⟩
theorem ziU (w:World):Calls prog 50 #[.int .i64 22] w fun e w'=>e=.returned (.tuple #[.agg #[.bool false,.bool true,.bool false,.bool false,.bool false,.bool false],.bool true])∧Below w.heap.size w w':=by
 go_enter func50,ntmps50
 go_wp2_with fail
 exact bodyPost_ret (v:=.tuple #[.agg #[.bool false,.bool true,.bool false,.bool false,.bool false,.bool false],.bool true]) (by simp[results,results50,go_sem]) rfl ⟨rfl,Below.one _ _⟩
theorem ziQ (n:Int) (h:n<0∨22<n) (w:World):Calls prog 50 #[.int .i64 n] w fun e w'=>e=.returned (.tuple #[.agg #[.bool false,.bool false,.bool false,.bool false,.bool false,.bool false],.bool false])∧Below w.heap.size w w':=by
 rcases h with h | h
 ·go_enter func50,ntmps50
  go_wp2_with fail
  exact bodyPost_ret (v:=.tuple #[.agg #[.bool false,.bool false,.bool false,.bool false,.bool false,.bool false],.bool false]) (by simp[results,results50,go_sem]) rfl ⟨rfl,Below.one _ _⟩
 ·go_enter func50,ntmps50
  go_wp2_with fail
  exact bodyPost_ret (v:=.tuple #[.agg #[.bool false,.bool false,.bool false,.bool false,.bool false,.bool false],.bool false]) (by simp[results,results50,go_sem]) rfl ⟨rfl,Below.one _ _⟩
end
section
open Go.RowKit Go.Maps
theorem zb3 {H:Type} {P:Program} {e:TypeId} (he:P.underlying e=some .bool) {v:Value} {z:DataW H × List MemPlace} (h:plainElem P e v=some z):∃a,v=.bool a∧z=(.lit (.bool a),[]):=by
 unfold plainElem at h
 rw[he] at h
 cases v<;>simp at h
 exact ⟨_,rfl,h.symm⟩
theorem zbx {H:Type} {P:Program} (w:World) {ops:Array Oper} {rest:List Oper} {o:Oper} {a:Act} {Q:Exit→Act→World→Prop}
  (hg:Region.wanted o (yielded ops a.tmps)=true) (m x:Operand) (t:TypeId) (hop:o.op=Op.lookup t m x false)
  (k e:TypeId) (K:Keyed P k) (ht:P.underlying t=some (.map k e)) (he:P.underlying e=some .bool) (hz:(zeroValue e).run P w=.ok (.bool false) w) (b n:Nat) (D:DataW H)
  (hm:a.eval m=.map (some b)) (hown:w.ownsMap P k (plainElem P e) b n D) (key:Value) (kl:Lit) (hx:a.eval x=key) (hkey:keyOf P k key=some kl) (c:Bool) (hat:D.atKey kl (.lit (.bool false))=.lit (.bool c))
  (hK:wpList P ops Q rest (a.put o.dst (.bool c)) w):wpList P ops Q (o::rest) a w:=by
 obtain ⟨v,ps,hrun,hv⟩:=hown.lookup K ht hz (plainElem_bool he false) hkey
 obtain ⟨c',rfl,hc⟩:=zb3 he hv
 simp only[Prod.mk.injEq] at hc
 rw[hat] at hc
 obtain rfl:c=c':=by simpa using hc.1
 unfold wpList
 rw[if_pos hg]
 left
 unfold Oper.wp
 simp[execOp,hop,hm,hx,hrun,Result.andThen]
 exact hK
end
section
open Go.RowKit
theorem zbu:(prog.info? 3).map (fun i=>(i.zero,i.size,i.bytes))=some (some (.int .i64 0),1,8):=by kernel_rfl
def I64 (n:Int):Prop:=-9223372036854775808≤n∧n≤9223372036854775807
theorem zc7:∀{l:List Int},(∀x∈l,I64 x)→CellsG 1 IntR l (l.map (Value.int .i64))
 | [],_=>rfl
 | x::l,h=>⟨[.int .i64 x],l.map (Value.int .i64),rfl,rfl,⟨rfl,h x (by simp)⟩,zc7 fun y hy=>h y (by simp[hy])⟩
theorem SlC.i64 {w:World} {B:Nat} {l:List Int} {v:Value} (h:SlC w B 1 IntR l v):∀x∈l,I64 x:=by
 obtain ⟨o,len,cap,rfl,_,_,_,h4⟩:=h
 intro x hx
 obtain ⟨i,hi⟩:=List.mem_iff_getElem?.1 hx
 cases o with
 | none=>rw[h4.1] at hi;simp at hi
 | some a=>
  obtain ⟨cs,_,_,hr⟩:=h4.2 i x hi
  exact hr.2
theorem rowInts {w:World} {base:Nat} {v:Value} {l:List Int} (h:w.ownsRow base 3 1 v l.length (l.map (Value.int .i64))) (hl:∀x∈l,I64 x):SlC w w.heap.size 1 IntR l v:=za0 h (zc7 hl)
theorem zaN {W:World} {b base:Nat} (hb:b=W.heap.size) (hB:base≤b) (e:TypeId) (size n:Nat) (cs:List Value) (hl:cs.length=n*size) (hn:n≤maxLen):(W.alloc (.cells cs.toArray e)).ownsRow base e size (.slice (some ⟨b,0,none⟩) n n) n cs:=by
 subst hb
 refine ⟨hl,.inr ⟨W.heap.size,n,cs.toArray,rfl,hB,World.alloc_heap_new W _,Nat.le_refl _,hn,by simpa using hl,?_⟩⟩
 rw[List.take_of_length_le (by simp[hl])]
theorem intsCell {w:World} {B:Nat} {l:List Int} {o:Option Addr} {len cap:Nat} (h:SlC w B 1 IntR l (.slice o len cap)) (a:Addr) (ho:o=some a):∀(j:Nat) (u:Value),(l.map (Value.int .i64))[j]?=some u→w.cell? (a.add j)=some u:=by
 subst ho
 intro j u hj
 simp only[List.getElem?_map,Option.map_eq_some_iff] at hj
 obtain ⟨x,hx,rfl⟩:=hj
 obtain ⟨b,off,cs,ha,_,_,hc,hr⟩:=h.at (Below.refl B w) hx
 simp only[Option.some.injEq] at ha
 subst ha
 have h0:=hc 0 (.int .i64 x) (by rw[hr.1];rfl)
 rw[zaP rfl]
 simpa using h0
theorem zj9 (l:List Int):∀u∈l.map (Value.int .i64),u.oneCell'=true:=by
 intro u hu
 obtain ⟨x,_,rfl⟩:=List.mem_map.1 hu
 rfl
theorem zaA {w:World} {ops:Array Oper} {rest:List Oper} {o:Oper} {a:Act} {Q:Exit→Act→World→Prop} (hgd:o.guard=none) (s x:Operand)
  (ho:o.op=.call { callee:=.builtin .append,args:=#[s,x],argTypes:=#[24,24] }) (base B:Nat) (v:Value) (xs l:List Int) (hs:a.eval s=v) (hown:w.ownsRow base 3 1 v xs.length (xs.map (Value.int .i64)))
  (oa:Option Addr) (m c:Nat) (hx:a.eval x=.slice oa m c) (hsl:SlC w B 1 IntR l (.slice oa m c)) (hb:(xs.length+l.length)*8≤140737488355328) (hbase:base≤w.heap.size)
  (h:∀v' w',w'.ownsRow base 3 1 v' (xs++l).length ((xs++l).map (Value.int .i64))→w.grownBy w' v.ownBlock→wpList prog ops Q rest (a.put o.dst v') w'):wpList prog ops Q (o::rest) a w:=by
 obtain ⟨i0,hi,hz0,hz1,hz2⟩:=info_parts zbu
 obtain ⟨rfl,_,_⟩:=hsl.lens
 cases oa with
 | none=>
  obtain ⟨o',l',c',he,_,_,_,h4⟩:=hsl
  simp only[Value.slice.injEq] at he
  obtain ⟨rfl,rfl,rfl⟩:=he
  obtain ⟨rfl,rfl⟩:=h4
  refine wpList_append_own_none hgd s x 24 ho base 3 i0 1 underlying24 hi v xs.length _ hs hown hx ?_
  refine h v w (by simpa using hown) ?_
  exact ⟨rfl,rfl,rfl,Nat.le_refl _,fun _ _ _=>rfl⟩
 | some ad=>
  refine wpList_append_own _ hgd s x 24 ho base 3 i0 (.int .i64 0) 1 8 underlying24 hi hz0 hz1 hz2 rfl (by decide) v xs.length _ hs hown ad l.length c (l.map (Value.int .i64)) hx (by simp) (intsCell hsl ad rfl) (zj9 l) (by unfold maxLen;omega) hb hbase ?_
  intro v' w' h1 h2 _
  exact h v' w' (by simpa using h1) h2
end
section
open Go.RowKit
theorem zev:∀(l:List Dat) (left:Int),0≤left→(0≤Dat.fewL l left↔(Dat.allL l:Int)≤left)
 | [],left,h=>by simp[Dat.fewL,Dat.allL,h]
 | x::l,left,h=>by
  have hb:=Dat.few_both x left
  have hi:=Dat.few_iff x left
  rw[Dat.fewL,if_pos h,Dat.allL]
  by_cases hf:0≤Dat.few x left
  ·rw[zev l _ hf,hb.1 (hi.1 hf)]
   omega
  ·have h1:¬(Dat.all x:Int)≤left:=fun hh=>hf (hi.2 hh)
   rw[fewL_neg _ hf]
   constructor
   ·intro hh;exact absurd hh hf
   ·intro hh;omega
theorem zgu (l:List Dat) (sl:Value) (left:Int) (B:Nat) (w:World) (hv:RepS w B l sl) (hB:B≤w.heap.size) (h0:0≤left) (h1:left≤100000) (r:Bool) (hr:decide ((Dat.allL l:Int)≤left)=r) :
  Calls prog 10 #[sl,.int .i64 left] w fun e w'=>e=.returned (.bool r)∧Below w.heap.size w w':=by
 obtain ⟨o,len,cap,rfl,hl,hcap,hmax,hc⟩:=hv
 have HV:=zh hc
 have HL:=zh hl
 have HR:=zh (show decide (0≤Dat.fewL l left)=r by rw[←hr,Bool.eq_iff_iff];simp only[decide_eq_true_eq];exact zev l left h0)
 clear hc hl hr
 go_enter func10,ntmps10
 go_wp2_with fail
 go_loopg [1,5] len (fun g a i wr=>∃(cur:Int) (j:Nat),g=len-j∧a=.int .i64 cur∧i=.int .i64 j∧j≤len∧-1≤cur∧cur≤100000∧Hid (Dat.fewL (l.drop j) cur=Dat.fewL l left)∧Below w.heap.size w wr)
 case atStart=>exact ⟨left,0,rfl,rfl,rfl,by omega,by omega,by omega,rfl,Below.refl _ _⟩
 case round=>
  obtain ⟨cur,j,rfl,rfl,rfl,hj,hc1,hc2,HF,hb⟩:=hrel
  have HB:=zh hb
  have hsz:=hb.size
  clear hb
  by_cases hjl:j<len
  ·by_cases hcur:0≤cur
   ·obtain ⟨x,hx⟩:∃x,l[j]?=some x:=⟨_,List.getElem?_eq_getElem (by rw[←HL.out];exact hjl)⟩
    obtain ⟨b1,off1,k1,n1,d1,s1,l1,o1,len1,cap1,ho1,hx1,e0,e1,e2,e3,e4,er⟩:=za8 HV.out (HB.out.mono hB) hx
    subst ho1 hx1
    have HX:=zh hx
    have ER:=zh er
    have HF2:=zh ((fewL_step hx hcur).symm.trans HF.out)
    have g1:=zkL (.mk k1 n1 d1 s1 l1) cur hcur
    have g2:=Dat.few_le (.mk k1 n1 d1 s1 l1) cur
    obtain ⟨y,hy⟩:∃y,Dat.few (.mk k1 n1 d1 s1 l1) cur=y:=⟨_,rfl⟩
    rw[hy] at g1 g2 HF2
    have HC:=zh (ziN _ _ cur B wr ER.out (by omega) hcur (by omega))
    rw[hy] at HC
    clear hx er hy
    go_wp2_with fail
    refine HC.out.mono ?_
    rintro e1 w1 ⟨rfl,hb1⟩
    have HB1:=zh (Below.next HB.out hb1)
    clear hb1
    go_wp2_with fail
    go_roundg (len-(j+1))
    case measure=>omega
    case rel=>exact ⟨y,j+1,rfl,rfl,by go_num,by omega,by omega,by omega,HF2,HB1.out⟩
   ·have HQ:=zh (show decide (0≤cur)=r by rw[←HR.out,←HF.out,fewL_neg _ hcur])
    obtain rfl:false=r:=by rw[←HQ.out,decide_eq_false hcur]
    go_wp2_with fail
    go_ret
    exact ⟨rfl,HB.out⟩
  ·obtain rfl:len=j:=by omega
   have HQ:=zh (show decide (0≤cur)=r by
     rw[←HR.out,←HF.out,List.drop_eq_nil_of_le (by rw[←HL.out];exact Nat.le_refl _)];rfl)
   by_cases hcur:0≤cur
   ·obtain rfl:true=r:=by rw[←HQ.out,decide_eq_true hcur]
    go_wp2_with fail
    go_ret
    exact ⟨rfl,HB.out⟩
   ·obtain rfl:false=r:=by rw[←HQ.out,decide_eq_false hcur]
    go_wp2_with fail
    go_ret
    exact ⟨rfl,HB.out⟩
end
section
open Go Go.RowKit
structure Turned (S:Nat→Prop) (A B:World):Prop where
 os:B.os=A.os
 tape:B.tape=A.tape
 output:B.output=A.output
 size:A.heap.size≤B.heap.size
 block:∀b,b<A.heap.size→¬S b→B.heap[b]?=A.heap[b]?
theorem Turned.refl (S:Nat→Prop) (A:World):Turned S A A:=⟨rfl,rfl,rfl,Nat.le_refl _,fun _ _ _=>rfl⟩
theorem Turned.trans {S S':Nat→Prop} {A B C:World} (h:Turned S A B) (h':Turned S' B C) (hS:∀b,b<A.heap.size→S' b→S b):Turned S A C:=
 ⟨h'.os.trans h.os,h'.tape.trans h.tape,h'.output.trans h.output,Nat.le_trans h.size h'.size,fun b hb hn=>(h'.block b (Nat.lt_of_lt_of_le hb h.size) (fun hs=>hn (hS b hb hs))).trans (h.block b hb hn)⟩
theorem Turned.next {S:Nat→Prop} {A B C:World} (h:Turned S A B) (h':Turned S B C):Turned S A C:=h.trans h' fun _ _ h=>h
theorem Turned.wider {S S':Nat→Prop} {A B:World} (h:Turned S A B) (hS:∀b,b<A.heap.size→S b→S' b):Turned S' A B:=⟨h.os,h.tape,h.output,h.size,fun b hb hn=>h.block b hb fun hs=>hn (hS b hb hs)⟩
theorem Turned.of_below {S:Nat→Prop} {A B:World} (h:Below A.heap.size A B):Turned S A B:=⟨h.os,h.tape,h.output,h.size,fun b hb _=>h.block b hb⟩
theorem Turned.below {S:Nat→Prop} {A B:World} (h:Turned S A B) {b0:Nat} (hS:∀b,S b→b0≤b) (hb0:b0≤A.heap.size):Below b0 A B:=
 ⟨h.os,h.tape,h.output,h.size,fun b hb=>h.block b (Nat.lt_of_lt_of_le hb hb0) fun hs=>by have:=hS b hs;omega⟩
theorem Turned.set {S:Nat→Prop} (A:World) (a:Addr) (v:Value) (ha:S a.block):Turned S A (A.setCell a v):=⟨rfl,rfl,rfl,by rw[World.size_setCell];exact Nat.le_refl _,fun b _ hn=>zag A a v fun e=>hn (e ▸ ha)⟩
theorem Turned.grown {S:Nat→Prop} {A B:World} {row:Option Nat} (h:A.grownBy B row) (hr:∀b,row=some b→S b):Turned S A B:=⟨h.os,h.tape,h.output,h.size,fun b hb hn=>h.block b hb fun e=>hn (hr b e.symm)⟩
theorem Turned.box {S:Nat→Prop} {A B:World} (h:Turned S A B) {b:Nat} {t:TypeId} {cs:List Value} (hb:BoxL A b t cs) (hn:¬S b):BoxL B b t cs:=(h.block b hb.lt hn).trans hb
end
section
open Go Go.RowKit Go.Deep Go.ChangeShapes Go.WideShapes Go.ChangeAt
section
variable {H : Type} {enc : TypeId × Value → H}
theorem zec {α:Type} {w:World} {ts te:TypeId} {size bs:Nat} (hu:prog.underlying ts=some (.slice te)) (hcs:prog.cellsOf te=size) (hbs:prog.bytesOf te=bs) (hpos:0<size) (hbp:0<bs) {R:α→List Value→Prop}
  (fuel:Nat) (hel:∀n' cs' y,n' < fuel→DataW.trod enc prog w 0 (fun _=>true) true n' te cs'=some y→(∀n∈y.1.weights prog te,n≤reachBytes)→∃x,R x cs') (c4:Value) (x4:DataW H × List MemPlace) (g4:DataW.trod enc prog w 0 (fun _=>true) true fuel ts [c4]=some x4) (w4:∀n∈x4.1.weights prog ts,n≤reachBytes):∃l:List α,SlC w w.heap.size size R l c4:=by
 rcases DataW.trod_slice hu g4 with ⟨e4,_⟩ | ⟨a,len,cap,elems,rest,n',rfl,e4,hx4,_,hle,_,hel2,hget4,hsp,_⟩
 ·have f4:c4=.slice none 0 0:=by simpa using e4
  subst f4
  exact ⟨[],none,0,0,rfl,rfl,by omega,by omega,rfl,rfl⟩
 ·have f4:c4=.slice (some a) len cap:=by simpa using e4
  subst f4 hx4
  have hrest:=(hsp rfl).1
  have hcap:cap≤9223372036854775807:=by
   have:=w4 ((elems.length+rest.length)*bs) (by simp[DataW.weights,hu,hbs])
   have h9:(elems.length+rest.length)*bs≤140737488351232:=this
   have h10:(elems.length+rest.length)*1≤(elems.length+rest.length)*bs:=Nat.mul_le_mul_left _ hbp
   omega
  by_cases h0:len=0
  ·subst h0
   exact ⟨[],some a,0,cap,rfl,rfl,by omega,hcap,fun h=>absurd rfl h,fun i x hx=>by simp at hx⟩
  have hat:∀i (hi:i<len),∃cs',w.cells? 0 (a.add (i*size)) size=some cs'∧DataW.trod enc prog w 0 (fun _=>true) true n' te cs'=some (elems[i]'(by omega)):=by
   intro i hi
   have hb:=hget4 i hi
   rw[hcs,List.getElem?_eq_getElem (by omega)] at hb
   exact Option.bind_eq_some_iff.1 hb
  obtain ⟨hspot,hblk⟩:a.spot=none∧a.block<w.heap.size:=by
   obtain ⟨cs',hc1,_⟩:=hat 0 (by omega)
   obtain ⟨_,hl5,hcs⟩:=World.cells?_some hc1
   have h00:=hcs 0 (by omega)
   rw[List.getElem?_eq_getElem (by omega)] at h00
   have:=zbr h00
   simpa[Addr.add] using this
  have hcell:∀i,i<len→∃x:α,∃cs:List Value,cs.length=size∧(∀j u,cs[j]?=some u→w.cell? ⟨a.block,a.off+i*size+j,none⟩=some u)∧R x cs:=by
   intro i hi
   obtain ⟨cs',hc1,hc2⟩:=hat i hi
   obtain ⟨_,hl5,hcs⟩:=World.cells?_some hc1
   rw[zaP hspot] at hcs
   obtain ⟨x,hx⟩:=hel n' _ _ (by omega) hc2 (fun q hq=>w4 q (by
     simp only[DataW.weights,hu,List.mem_cons,List.mem_append]
     refine Or.inr (Or.inl (zaR (d:=(elems[i]'(by omega)).1) ?_ q hq))
     exact List.mem_map_of_mem (List.getElem_mem _)))
   refine ⟨x,cs',hl5,fun j u hj=>?_,hx⟩
   have hjl:j<size:=by have:=(List.getElem?_eq_some_iff.1 hj).1;omega
   have:=hcs j hjl
   rw[zaP rfl] at this
   rw[←hj];exact this
  obtain ⟨l,hl,hP⟩:=zcG hcell
  exact ⟨l,some a,len,cap,rfl,hl.symm,hle,hcap,fun _=>⟨hspot,hblk⟩,fun i x hx=>hP i x hx⟩
end
end
section
open Go Go.RowKit
def FndPost (n:Nat) (St:Nat→World→Prop) (Bad:World→Prop) (e:Ending) (w':World):Prop:=∃c:Bool,e=.returned (.bool c)∧(c=true→Bad w')∧(c=false→St n w')
def FndIdx (n:Nat) (St:Nat→World→Prop) (Bad:World→Prop) (e:Ending) (w':World):Prop:=∃j:Int,e=.returned (.int .i64 j)∧(0≤j→Bad w')∧(¬0≤j→St n w')
theorem zjd (F:FuncId) (caps:Array Value) (l:List Trm) (sl:Value) (B:Nat) (w:World) (St:Nat→World→Prop) (Bad:World→Prop) (hv:TrmS w B l sl)
  (hF:∀(args:Array Value) (w:World),(callFunc F args).run prog w=.ok (.enter F args) w)
  (hB:∀j W,St j W→Below B w W)
  (h0:St 0 w)
  (H:∀(j:Nat) x,l[j]?=some x→∀c0 c1 c2 c3 W,TrmR W B x [c0,c1,c2,c3]→St j W→Calls prog F (#[.agg #[c0,c1,c2,c3]]++caps) W fun e W'=>∃c:Bool,e=.returned (.bool c)∧(c=true→Bad W')∧(c=false→St (j+1) W')) :
  Calls prog 90 #[sl,.func (.func F) #[] caps] w (FndIdx l.length St Bad):=by
 obtain ⟨o,len,cap,rfl,hl,hcap,hmax⟩:=SlC.slice hv
 have HV:=zh hv
 have HL:=zh hl
 have HH:=zh H
 have HS:=zh h0
 have HBB:=zh hB
 clear hv hl H h0 hB
 go_enter func90,ntmps90
 go_wp2
 go_loopg [8] len (fun g i wr=>∃(j:Nat),g=len-j∧i=.int .i64 j∧j≤len∧Hid (St j wr))
 case atStart=>exact ⟨0,rfl,rfl,by omega,HS⟩
 case round=>
  obtain ⟨j,rfl,rfl,hj,HA⟩:=hrel
  by_cases hjl:j<len
  ·obtain ⟨x,hx⟩:∃x,l[j]?=some x:=⟨_,List.getElem?_eq_getElem (by rw[←HL.out];exact hjl)⟩
   have hbw:=HBB.out j wr HA.out
   obtain ⟨b,off,cs,ho,_,hcl,hcell,hr⟩:=SlC.at HV.out hbw hx
   subst ho
   match cs,hcl with
   | [c0,c1,c2,c3],_=>
    have e0:=hcell 0 _ rfl
    have e1:=hcell 1 _ rfl
    have e2:=hcell 2 _ rfl
    have e3:=hcell 3 _ rfl
    simp only[Nat.add_zero] at e0
    have HC:=zh (HH.out j x hx _ _ _ _ wr (TrmR.kept hbw _ _ hr) HA.out)
    clear hx hr hcell hbw
    go_wp2_with fail
    refine HC.out.mono ?_
    rintro e' w1 ⟨c,rfl,h1,h2⟩
    have HT:=zh h1
    have HST:=zh h2
    clear h1 h2
    cases c with
    | true=>
     go_wp2_with fail
     go_ret
     exact ⟨j,rfl,fun _=>HT.out trivial,fun h=>absurd (by omega) h⟩
    | false=>
     go_wp2_with fail
     go_roundg (len-(j+1))
     case measure=>omega
     case rel=>exact ⟨j+1,rfl,by go_num,by omega,zh (HST.out trivial)⟩
  ·obtain rfl:j=len:=by omega
   go_wp2
   go_ret
   exact ⟨-1,rfl,fun h=>by omega,fun _=>by rw[←HL.out];exact HA.out⟩
theorem zcQ (F:FuncId) (caps:Array Value) (l:List Trm) (sl:Value) (B:Nat) (w:World) (St:Nat→World→Prop) (Bad:World→Prop) (hv:TrmS w B l sl)
  (hF:∀(args:Array Value) (w:World),(callFunc F args).run prog w=.ok (.enter F args) w)
  (hB:∀j W,St j W→Below B w W)
  (h0:St 0 w)
  (H:∀(j:Nat) x,l[j]?=some x→∀c0 c1 c2 c3 W,TrmR W B x [c0,c1,c2,c3]→St j W→Calls prog F (#[.agg #[c0,c1,c2,c3]]++caps) W fun e W'=>∃c:Bool,e=.returned (.bool c)∧(c=true→Bad W')∧(c=false→St (j+1) W')) :
  Calls prog 62 #[sl,.func (.func F) #[] caps] w (FndPost l.length St Bad):=by
 have HI:=zh (zjd F caps l sl B w St Bad hv hF hB h0 H)
 obtain ⟨o,len,cap,rfl,h1,h2,h3⟩:=SlC.slice hv
 clear hv H hF h1 h2 h3 hB h0
 go_enter func62,ntmps62
 go_wp2_with fail
 refine HI.out.mono ?_
 rintro e' w1 ⟨j,rfl,h1,h2⟩
 have H1:=zh h1
 have H2:=zh h2
 clear h1 h2
 by_cases hj:0≤j
 ·go_wp2_with fail
  go_ret
  refine ⟨true,by simp,fun _=>H1.out hj,fun h=>?_⟩
  cases h
 ·have f0:decide (0≤j)=false:=decide_eq_false hj
  go_wp2_with fail
  go_ret
  refine ⟨false,by simp,fun h=>?_,fun _=>H2.out hj⟩
  cases h
end
section
open Go Go.RowKit
theorem zlH (w:World):Calls prog 57 #[.int .i64 0] w fun e w'=>e=.returned (.tuple #[.agg #[.int .i64 0,.int .i64 3,.int .i64 0,.bool false,.bool false],.bool true])∧Below w.heap.size w w':=by
 go_enter func57,ntmps57
 go_wp2_with fail
 exact bodyPost_ret (v:=.tuple #[.agg #[.int .i64 0,.int .i64 3,.int .i64 0,.bool false,.bool false],.bool true]) (by simp[results,results57,go_sem]) rfl ⟨rfl,Below.one _ _⟩
theorem zlM (w:World):Calls prog 57 #[.int .i64 1] w fun e w'=>e=.returned (.tuple #[.agg #[.int .i64 0,.int .i64 3,.int .i64 0,.bool false,.bool false],.bool true])∧Below w.heap.size w w':=by
 go_enter func57,ntmps57
 go_wp2_with fail
 exact bodyPost_ret (v:=.tuple #[.agg #[.int .i64 0,.int .i64 3,.int .i64 0,.bool false,.bool false],.bool true]) (by simp[results,results57,go_sem]) rfl ⟨rfl,Below.one _ _⟩
theorem zlG (w:World):Calls prog 57 #[.int .i64 2] w fun e w'=>e=.returned (.tuple #[.agg #[.int .i64 0,.int .i64 1,.int .i64 1,.bool false,.bool false],.bool true])∧Below w.heap.size w w':=by
 go_enter func57,ntmps57
 go_wp2_with fail
 exact bodyPost_ret (v:=.tuple #[.agg #[.int .i64 0,.int .i64 1,.int .i64 1,.bool false,.bool false],.bool true]) (by simp[results,results57,go_sem]) rfl ⟨rfl,Below.one _ _⟩
theorem zlz (w:World):Calls prog 57 #[.int .i64 3] w fun e w'=>e=.returned (.tuple #[.agg #[.int .i64 0,.int .i64 3,.int .i64 3,.bool false,.bool false],.bool true])∧Below w.heap.size w w':=by
 go_enter func57,ntmps57
 go_wp2_with fail
 exact bodyPost_ret (v:=.tuple #[.agg #[.int .i64 0,.int .i64 3,.int .i64 3,.bool false,.bool false],.bool true]) (by simp[results,results57,go_sem]) rfl ⟨rfl,Below.one _ _⟩
theorem zk9 (w:World):Calls prog 57 #[.int .i64 4] w fun e w'=>e=.returned (.tuple #[.agg #[.int .i64 0,.int .i64 2,.int .i64 1,.bool false,.bool true],.bool true])∧Below w.heap.size w w':=by
 go_enter func57,ntmps57
 go_wp2_with fail
 exact bodyPost_ret (v:=.tuple #[.agg #[.int .i64 0,.int .i64 2,.int .i64 1,.bool false,.bool true],.bool true]) (by simp[results,results57,go_sem]) rfl ⟨rfl,Below.one _ _⟩
theorem zkR (w:World):Calls prog 57 #[.int .i64 5] w fun e w'=>e=.returned (.tuple #[.agg #[.int .i64 0,.int .i64 3,.int .i64 1,.bool true,.bool false],.bool true])∧Below w.heap.size w w':=by
 go_enter func57,ntmps57
 go_wp2_with fail
 exact bodyPost_ret (v:=.tuple #[.agg #[.int .i64 0,.int .i64 3,.int .i64 1,.bool true,.bool false],.bool true]) (by simp[results,results57,go_sem]) rfl ⟨rfl,Below.one _ _⟩
theorem zkV (w:World):Calls prog 57 #[.int .i64 6] w fun e w'=>e=.returned (.tuple #[.agg #[.int .i64 0,.int .i64 3,.int .i64 1,.bool true,.bool false],.bool true])∧Below w.heap.size w w':=by
 go_enter func57,ntmps57
 go_wp2_with fail
 exact bodyPost_ret (v:=.tuple #[.agg #[.int .i64 0,.int .i64 3,.int .i64 1,.bool true,.bool false],.bool true]) (by simp[results,results57,go_sem]) rfl ⟨rfl,Below.one _ _⟩
theorem zkm (w:World):Calls prog 57 #[.int .i64 11] w fun e w'=>e=.returned (.tuple #[.agg #[.int .i64 0,.int .i64 3,.int .i64 0,.bool false,.bool false],.bool true])∧Below w.heap.size w w':=by
 go_enter func57,ntmps57
 go_wp2_with fail
 exact bodyPost_ret (v:=.tuple #[.agg #[.int .i64 0,.int .i64 3,.int .i64 0,.bool false,.bool false],.bool true]) (by simp[results,results57,go_sem]) rfl ⟨rfl,Below.one _ _⟩
end
section
open Go Go.RowKit
theorem zlE (w:World):Calls prog 57 #[.int .i64 7] w fun e w'=>e=.returned (.tuple #[.agg #[.int .i64 0,.int .i64 0,.int .i64 0,.bool false,.bool true],.bool true])∧Below w.heap.size w w':=by
 go_enter func57,ntmps57
 go_wp2_with fail
 exact bodyPost_ret (v:=.tuple #[.agg #[.int .i64 0,.int .i64 0,.int .i64 0,.bool false,.bool true],.bool true]) (by simp[results,results57,go_sem]) rfl ⟨rfl,Below.one _ _⟩
theorem zlN (w:World):Calls prog 57 #[.int .i64 8] w fun e w'=>e=.returned (.tuple #[.agg #[.int .i64 1,.int .i64 3,.int .i64 0,.bool false,.bool true],.bool true])∧Below w.heap.size w w':=by
 go_enter func57,ntmps57
 go_wp2_with fail
 exact bodyPost_ret (v:=.tuple #[.agg #[.int .i64 1,.int .i64 3,.int .i64 0,.bool false,.bool true],.bool true]) (by simp[results,results57,go_sem]) rfl ⟨rfl,Below.one _ _⟩
theorem zlK (w:World):Calls prog 57 #[.int .i64 9] w fun e w'=>e=.returned (.tuple #[.agg #[.int .i64 1,.int .i64 3,.int .i64 0,.bool false,.bool true],.bool true])∧Below w.heap.size w w':=by
 go_enter func57,ntmps57
 go_wp2_with fail
 exact bodyPost_ret (v:=.tuple #[.agg #[.int .i64 1,.int .i64 3,.int .i64 0,.bool false,.bool true],.bool true]) (by simp[results,results57,go_sem]) rfl ⟨rfl,Below.one _ _⟩
theorem zkx (w:World):Calls prog 57 #[.int .i64 12] w fun e w'=>e=.returned (.tuple #[.agg #[.int .i64 1,.int .i64 3,.int .i64 1,.bool false,.bool false],.bool true])∧Below w.heap.size w w':=by
 go_enter func57,ntmps57
 go_wp2_with fail
 exact bodyPost_ret (v:=.tuple #[.agg #[.int .i64 1,.int .i64 3,.int .i64 1,.bool false,.bool false],.bool true]) (by simp[results,results57,go_sem]) rfl ⟨rfl,Below.one _ _⟩
theorem zj8 (w:World):Calls prog 57 #[.int .i64 13] w fun e w'=>e=.returned (.tuple #[.agg #[.int .i64 1,.int .i64 3,.int .i64 0,.bool false,.bool false],.bool true])∧Below w.heap.size w w':=by
 go_enter func57,ntmps57
 go_wp2_with fail
 exact bodyPost_ret (v:=.tuple #[.agg #[.int .i64 1,.int .i64 3,.int .i64 0,.bool false,.bool false],.bool true]) (by simp[results,results57,go_sem]) rfl ⟨rfl,Below.one _ _⟩
theorem zjO (w:World):Calls prog 57 #[.int .i64 14] w fun e w'=>e=.returned (.tuple #[.agg #[.int .i64 1,.int .i64 1,.int .i64 1,.bool false,.bool false],.bool true])∧Below w.heap.size w w':=by
 go_enter func57,ntmps57
 go_wp2_with fail
 exact bodyPost_ret (v:=.tuple #[.agg #[.int .i64 1,.int .i64 1,.int .i64 1,.bool false,.bool false],.bool true]) (by simp[results,results57,go_sem]) rfl ⟨rfl,Below.one _ _⟩
theorem zi6 (w:World):Calls prog 57 #[.int .i64 10] w fun e w'=>e=.returned (.tuple #[.agg #[.int .i64 2,.int .i64 3,.int .i64 0,.bool true,.bool false],.bool true])∧Below w.heap.size w w':=by
 go_enter func57,ntmps57
 go_wp2_with fail
 exact bodyPost_ret (v:=.tuple #[.agg #[.int .i64 2,.int .i64 3,.int .i64 0,.bool true,.bool false],.bool true]) (by simp[results,results57,go_sem]) rfl ⟨rfl,Below.one _ _⟩
end
section
open Go Go.RowKit
theorem zjV (w:World):Calls prog 57 #[.int .i64 15] w fun e w'=>e=.returned (.tuple #[.agg #[.int .i64 2,.int .i64 3,.int .i64 1,.bool false,.bool false],.bool true])∧Below w.heap.size w w':=by
 go_enter func57,ntmps57
 go_wp2_with fail
 exact bodyPost_ret (v:=.tuple #[.agg #[.int .i64 2,.int .i64 3,.int .i64 1,.bool false,.bool false],.bool true]) (by simp[results,results57,go_sem]) rfl ⟨rfl,Below.one _ _⟩
theorem zjR (w:World):Calls prog 57 #[.int .i64 16] w fun e w'=>e=.returned (.tuple #[.agg #[.int .i64 2,.int .i64 3,.int .i64 1,.bool false,.bool false],.bool true])∧Below w.heap.size w w':=by
 go_enter func57,ntmps57
 go_wp2_with fail
 exact bodyPost_ret (v:=.tuple #[.agg #[.int .i64 2,.int .i64 3,.int .i64 1,.bool false,.bool false],.bool true]) (by simp[results,results57,go_sem]) rfl ⟨rfl,Below.one _ _⟩
theorem zjB (w:World):Calls prog 57 #[.int .i64 17] w fun e w'=>e=.returned (.tuple #[.agg #[.int .i64 2,.int .i64 3,.int .i64 2,.bool false,.bool false],.bool true])∧Below w.heap.size w w':=by
 go_enter func57,ntmps57
 go_wp2_with fail
 exact bodyPost_ret (v:=.tuple #[.agg #[.int .i64 2,.int .i64 3,.int .i64 2,.bool false,.bool false],.bool true]) (by simp[results,results57,go_sem]) rfl ⟨rfl,Below.one _ _⟩
theorem zky (w:World):Calls prog 57 #[.int .i64 18] w fun e w'=>e=.returned (.tuple #[.agg #[.int .i64 2,.int .i64 3,.int .i64 2,.bool false,.bool false],.bool true])∧Below w.heap.size w w':=by
 go_enter func57,ntmps57
 go_wp2_with fail
 exact bodyPost_ret (v:=.tuple #[.agg #[.int .i64 2,.int .i64 3,.int .i64 2,.bool false,.bool false],.bool true]) (by simp[results,results57,go_sem]) rfl ⟨rfl,Below.one _ _⟩
theorem zi3 (w:World):Calls prog 57 #[.int .i64 19] w fun e w'=>e=.returned (.tuple #[.agg #[.int .i64 3,.int .i64 3,.int .i64 0,.bool true,.bool false],.bool true])∧Below w.heap.size w w':=by
 go_enter func57,ntmps57
 go_wp2_with fail
 exact bodyPost_ret (v:=.tuple #[.agg #[.int .i64 3,.int .i64 3,.int .i64 0,.bool true,.bool false],.bool true]) (by simp[results,results57,go_sem]) rfl ⟨rfl,Below.one _ _⟩
end
section
open Go Go.RowKit
theorem zjG (w:World):Calls prog 57 #[.int .i64 20] w fun e w'=>e=.returned (.tuple #[.agg #[.int .i64 3,.int .i64 3,.int .i64 0,.bool false,.bool false],.bool true])∧Below w.heap.size w w':=by
 go_enter func57,ntmps57
 go_wp2_with fail
 exact bodyPost_ret (v:=.tuple #[.agg #[.int .i64 3,.int .i64 3,.int .i64 0,.bool false,.bool false],.bool true]) (by simp[results,results57,go_sem]) rfl ⟨rfl,Below.one _ _⟩
theorem zj6 (w:World):Calls prog 57 #[.int .i64 21] w fun e w'=>e=.returned (.tuple #[.agg #[.int .i64 3,.int .i64 3,.int .i64 0,.bool false,.bool false],.bool true])∧Below w.heap.size w w':=by
 go_enter func57,ntmps57
 go_wp2_with fail
 exact bodyPost_ret (v:=.tuple #[.agg #[.int .i64 3,.int .i64 3,.int .i64 0,.bool false,.bool false],.bool true]) (by simp[results,results57,go_sem]) rfl ⟨rfl,Below.one _ _⟩
theorem zkz (w:World):Calls prog 57 #[.int .i64 22] w fun e w'=>e=.returned (.tuple #[.agg #[.int .i64 3,.int .i64 3,.int .i64 1,.bool true,.bool false],.bool true])∧Below w.heap.size w w':=by
 go_enter func57,ntmps57
 go_wp2_with fail
 exact bodyPost_ret (v:=.tuple #[.agg #[.int .i64 3,.int .i64 3,.int .i64 1,.bool true,.bool false],.bool true]) (by simp[results,results57,go_sem]) rfl ⟨rfl,Below.one _ _⟩
theorem ziX (n:Int) (h:n<0∨22<n) (w:World):Calls prog 57 #[.int .i64 n] w fun e w'=>e=.returned (.tuple #[.agg #[.int .i64 0,.int .i64 0,.int .i64 0,.bool false,.bool false],.bool false])∧Below w.heap.size w w':=by
 have f0:(n==0)=false:=by simp;omega
 have f1:(n==1)=false:=by simp;omega
 have f2:(n==2)=false:=by simp;omega
 have f3:(n==3)=false:=by simp;omega
 have f4:(n==4)=false:=by simp;omega
 have f5:(n==5)=false:=by simp;omega
 have f6:(n==6)=false:=by simp;omega
 have f7:(n==7)=false:=by simp;omega
 have f8:(n==8)=false:=by simp;omega
 have f9:(n==9)=false:=by simp;omega
 have f10:(n==10)=false:=by simp;omega
 have f11:(n==11)=false:=by simp;omega
 have f12:(n==12)=false:=by simp;omega
 have f13:(n==13)=false:=by simp;omega
 have f14:(n==14)=false:=by simp;omega
 have f15:(n==15)=false:=by simp;omega
 have f16:(n==16)=false:=by simp;omega
 have f17:(n==17)=false:=by simp;omega
 have f18:(n==18)=false:=by simp;omega
 have f19:(n==19)=false:=by simp;omega
 have f20:(n==20)=false:=by simp;omega
 have f21:(n==21)=false:=by simp;omega
 have f22:(n==22)=false:=by simp;omega
 clear h
 go_enter func57,ntmps57
 go_wp2_with fail
 exact bodyPost_ret (v:=.tuple #[.agg #[.int .i64 0,.int .i64 0,.int .i64 0,.bool false,.bool false],.bool false]) (by simp[results,results57,go_sem]) rfl ⟨rfl,Below.one _ _⟩
end
section
open Go.RowKit
theorem ziD {s s':ByteArray} (h:s.toList=s'.toList):s=s':=by
 apply ByteArray.ext;apply Array.ext'
 rw[←ByteArray.toList_eq,←ByteArray.toList_eq];exact h
theorem zgX {k n d k' n' d':Int} {s s':ByteArray} {l l':List Dat} {r:Bool} (h:((decide (k=k')&&(decide (n=n')&&(decide (d=d')&&decide (s=s'))))&&all2 Dat.alike l l')=r)
  (hno:¬(k=k'∧n=n'∧d=d'∧s=s'∧l.length=l'.length)):false=r:=by
 cases r with
 | false=>rfl
 | true=>
  simp only[Bool.and_eq_true,decide_eq_true_eq] at h
  exact absurd ⟨h.1.1,h.1.2.1,h.1.2.2.1,h.1.2.2.2,zfs h.2⟩ hno
theorem zfV {k n d k' n' d':Int} {s s':ByteArray} {len len':Nat} (hno:¬(k=k'∧n=n'∧d=d'∧s=s'∧len=len')) (h0:k=k') (h1:n=n') (h2:d=d') (h3:s.toList=s'.toList) (h4:((len:Int) != (len':Int))=false):False:=by
 refine hno ⟨h0,h1,h2,ziD h3,?_⟩
 have:(len:Int)=len':=by simpa using h4
 omega
theorem zf4:∀(x y:Dat) (v u:Value) (B:Nat) (w:World),RepD w B x v→RepD w B y u→B≤w.heap.size →
  Calls prog 42 #[v,u] w fun e w'=>e=.returned (.bool (Dat.alike x y))∧Below w.heap.size w w':=by
 intro x
 induction x using Dat.ind with
 | h k n d s l ih=>
  intro y v u B w hv hu hB
  obtain ⟨k',n',d',s',l'⟩:=y
  obtain ⟨r,hr⟩:∃r,Dat.alike (.mk k n d s l) (.mk k' n' d' s' l')=r:=⟨_,rfl⟩
  rw[hr]
  rw[Dat.alike,zcE] at hr
  have HR:=zh hr
  obtain ⟨sl,rfl,_,_,_,_,hs⟩:=hv.open
  obtain ⟨sm,rfl,_,_,_,_,hs'⟩:=hu.open
  obtain ⟨o,len,cap,rfl,hl,hcap,hmax,hc⟩:=hs
  obtain ⟨o',len',cap',rfl,hl',hcap',hmax',hc'⟩:=hs'
  have HL:=zh hl
  have HL':=zh hl'
  have HC:=zh hc
  have HC':=zh hc'
  have IH:=zh ih
  clear ih hv hu hl hl' hc hc'
  have HK:=zh (fun X Y=>((Below.refl w.heap.size w).alloc (Nat.le_refl _) X).alloc (by simp) Y)
  by_cases hall:k=k'∧n=n'∧d=d'∧s=s'∧len=len'
  ·obtain ⟨rfl,rfl,rfl,rfl,rfl⟩:=hall
   have HQ:=zh (show all2 Dat.alike l l'=r by rw[←hr];simp)
   clear hr HR
   have HT:=zh (show Two w #[.int .i64 k,.int .i64 n,.int .i64 d,.string s,.slice o len cap] 41 #[.int .i64 k,.int .i64 n,.int .i64 d,.string s,.slice o' len cap'] _ from Below.refl _ _)
   go_enter func42,ntmps42
   go_wp2_with fail
   go_loopg [5] len (fun g i wr=>∃j:Nat,g=len-j∧j≤len∧i=.int .i64 j∧(∀(q:Nat) (x y:Dat),q<j→l[q]?=some x→l'[q]?=some y→Dat.alike x y=true)∧Two w #[.int .i64 k,.int .i64 n,.int .i64 d,.string s,.slice o len cap] 41 #[.int .i64 k,.int .i64 n,.int .i64 d,.string s,.slice o' len cap'] wr)
   case atStart=>exact ⟨0,rfl,by omega,rfl,fun q x y h=>absurd h (by omega),HT.out⟩
   case round=>
    obtain ⟨j,rfl,hj,rfl,hq,ht⟩:=hrel
    have HQ2:=zh hq
    have HTW:=zh ht
    have c4:=ht.cell 4 (v:=.slice o len cap) rfl
    have d4:=ht.cell2 4 (v:=.slice o' len cap') rfl
    have hb:Below w.heap.size w wr:=(HK.out _ _).trans (Below.mono ht (by omega))
    have HB:=zh hb
    have hsz:=ht.size
    clear hq ht hb
    by_cases hjl:j<len
    ·obtain ⟨x,hx⟩:∃x,l[j]?=some x:=⟨_,List.getElem?_eq_getElem (by rw[←HL.out];exact hjl)⟩
     obtain ⟨y,hy⟩:∃y,l'[j]?=some y:=⟨_,List.getElem?_eq_getElem (by rw[←HL'.out];exact hjl)⟩
     obtain ⟨b1,off1,k1,n1,d1,s1,l1,o1,len1,cap1,ho1,hx1,e0,e1,e2,e3,e4,er⟩:=za8 HC.out (HB.out.mono hB) hx
     obtain ⟨b2,off2,k2,n2,d2,s2,l2,o2,len2,cap2,ho2,hx2,f0,f1,f2,f3,f4,fr⟩:=za8 HC'.out (HB.out.mono hB) hy
     subst ho1 ho2 hx1 hx2
     have ER:=zh er
     have FR:=zh fr
     have HX:=zh hx
     have HY:=zh hy
     have hl1:=zac e0
     have hl2:=zac f0
     have hlb1:=zac c4
     have hlb2:=zac d4
     obtain ⟨q,hq⟩:∃q,Dat.alike (.mk k1 n1 d1 s1 l1) (.mk k2 n2 d2 s2 l2)=q:=⟨_,rfl⟩
     have HQQ:=zh hq
     have HD:=zh ((Below.refl wr.heap.size wr).drew)
     clear hx hy er fr hq
     go_wp2_with fail
     refine zaa (Below wr.heap.size wr) 11 (by kernel_rfl) (by kernel_rfl) HD.out ?_
     intro T _ W HW HW2
     have g4:∀t,(W t).cell? ⟨w.heap.size,4,none⟩=some (.slice (some ⟨b1,off1,none⟩) len cap):=fun t=>((HW t).cell (p:=⟨w.heap.size,4,none⟩) hlb1).trans c4
     have h4:∀t,(W t).cell? ⟨w.heap.size+1,4,none⟩=some (.slice (some ⟨b2,off2,none⟩) len cap'):=fun t=>((HW t).cell (p:=⟨w.heap.size+1,4,none⟩) hlb2).trans d4
     have g0:∀t,(W t).cell? _=_:=fun t=>((HW t).cell (p:=⟨b1,off1+j*5,none⟩) hl1).trans e0
     have g1:∀t,(W t).cell? _=_:=fun t=>((HW t).cell (p:=⟨b1,off1+j*5+1,none⟩) hl1).trans e1
     have g2:∀t,(W t).cell? _=_:=fun t=>((HW t).cell (p:=⟨b1,off1+j*5+2,none⟩) hl1).trans e2
     have g3:∀t,(W t).cell? _=_:=fun t=>((HW t).cell (p:=⟨b1,off1+j*5+3,none⟩) hl1).trans e3
     have g5:∀t,(W t).cell? _=_:=fun t=>((HW t).cell (p:=⟨b1,off1+j*5+4,none⟩) hl1).trans e4
     have j0:∀t,(W t).cell? _=_:=fun t=>((HW t).cell (p:=⟨b2,off2+j*5,none⟩) hl2).trans f0
     have j1:∀t,(W t).cell? _=_:=fun t=>((HW t).cell (p:=⟨b2,off2+j*5+1,none⟩) hl2).trans f1
     have j2:∀t,(W t).cell? _=_:=fun t=>((HW t).cell (p:=⟨b2,off2+j*5+2,none⟩) hl2).trans f2
     have j3:∀t,(W t).cell? _=_:=fun t=>((HW t).cell (p:=⟨b2,off2+j*5+3,none⟩) hl2).trans f3
     have j5:∀t,(W t).cell? _=_:=fun t=>((HW t).cell (p:=⟨b2,off2+j*5+4,none⟩) hl2).trans f4
     have hC:∀t,Calls prog 42 #[.agg #[.int .i64 k1,.int .i64 n1,.int .i64 d1,.string s1,.slice o1 len1 cap1],.agg #[.int .i64 k2,.int .i64 n2,.int .i64 d2,.string s2,.slice o2 len2 cap2]] (W t) fun e w'=>e=.returned (.bool q)∧∃t',w'=W t':=fun t=>by
      have:=IH.out (.mk k1 n1 d1 s1 l1) (List.mem_of_getElem? HX.out) (.mk k2 n2 d2 s2 l2) _ _ B (W t) (ER.out.kept (Below.mono (HW t) (by omega))) (FR.out.kept (Below.mono (HW t) (by omega))) (by have:=(HW t).size;omega)
      rw[HQQ.out] at this
      exact this.mono fun e w' h=>⟨h.1,HW2 _ (Below.next (HW t) h.2)⟩
     have HCC:=zh hC
     have HWH:=zh HW
     clear HW HW2 hC
     simp only[List.take_succ_cons,List.take_zero,List.drop_succ_cons,List.drop_zero]
     repeat (go_big_quiet_step (first | (go_at_call 42;exact HCC.out _) | fail))
     refine wpQuiet_nil ?_
     intro t
     cases q with
     | true=>
      go_wp2_with fail
      go_roundg (len-(j+1))
      case measure=>omega
      case rel=>
       refine ⟨j+1,rfl,by omega,by go_num,?_,Two.next HTW.out (HWH.out t)⟩
       intro p x y hp hx hy
       by_cases hpj:p<j
       ·exact HQ2.out p x y hpj hx hy
       ·obtain rfl:p=j:=by omega
        obtain rfl:=Option.some.inj (hx.symm.trans HX.out)
        obtain rfl:=Option.some.inj (hy.symm.trans HY.out)
        exact HQQ.out
     | false=>
      have HF:=zh (show r=false by rw[←HQ.out];exact zdi HX.out HY.out HQQ.out)
      go_wp2_with fail
      go_ret
      exact ⟨zah HF.out.symm,Below.next HB.out (HWH.out t)⟩
    ·obtain rfl:j=len:=by omega
     have HF:=zh (show r=true by
      rw[←HQ.out]
      refine zfk (by rw[←HL.out,←HL'.out]) fun i x y hx hy=>HQ2.out i x y ?_ hx hy
      have:=(List.getElem?_eq_some_iff.1 hx).1
      rw[HL.out];exact this)
     go_wp2_with fail
     go_ret
     exact ⟨zah HF.out.symm,HB.out⟩
  ·have hno:¬(k=k'∧n=n'∧d=d'∧s=s'∧l.length=l'.length):=by rw[←HL.out,←HL'.out];exact hall
   have HF:=zh (zgX HR.out hno)
   have HNO:=zh hall
   clear hno hall hr
   go_enter func42,ntmps42
   go_wp2_with fail
   all_goals first
    | (go_ret;exact ⟨zah HF.out,HK.out _ _⟩)
    | exact (zfV HNO.out (by assumption) (by assumption) (by assumption) (by assumption) (by assumption)).elim
    | fail
theorem zih (x y:Dat) (v u:Value) (B:Nat) (w:World) (r:Bool) (hr:Dat.alike x y=r) (hv:RepD w B x v) (hu:RepD w B y u) (hB:B≤w.heap.size) :
  Calls prog 42 #[v,u] w fun e w'=>e=.returned (.bool r)∧Below w.heap.size w w':=by
 rw[←hr];exact zf4 x y v u B w hv hu hB
end
end Go.Proofs.YtdcajmeeeoofgaaGreatDoor
