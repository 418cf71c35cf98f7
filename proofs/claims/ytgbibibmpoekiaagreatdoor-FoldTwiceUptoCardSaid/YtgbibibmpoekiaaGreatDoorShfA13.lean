/-
  What the proofs lean on: Fd1, MapV, RegF, Concat, FdD.
-/
import Derived.Maps.OwnSet
import Derived.WideKeyEntry
import Derived.Lib.AppendZerosOnto
import Derived.Deep.LoopGhost
import Derived.Deep.Cut
import Derived.Deep.CutRange
import Derived.Test.YtgbibibmpoekiaaGreatDoorShfA10
import Derived.Test.YtgbibibmpoekiaaGreatDoorShfA11
set_option maxRecDepth 100000
set_option maxHeartbeats 16000000
namespace Go.Proofs.YtgbibibmpoekiaaGreatDoor
section
open Go Go.RowKit
namespace Fd
open Trm
mutual
def neat:Trm→Bool
 | mk op _ _ t=>(!(op==0 || (op==1 || (op==11 || op==13))) || t.isEmpty)&&neatL t
def neatL:List Trm→Bool
 | []=>true
 | x::l=>neat x&&neatL l
end
theorem neatL_iff {l:List Trm}:neatL l=true↔∀y∈l,neat y=true:=by
 induction l with
 | nil=>simp[neatL]
 | cons x l ih=>simp[neatL,ih]
theorem neat_parts {x:Trm} (h:neat x=true):∀y∈x.t,neat y=true:=by
 obtain ⟨o,n,v,t⟩:=x
 simp only[neat,Bool.and_eq_true] at h
 exact neatL_iff.1 h.2
theorem light_leaf {x:Trm} (h:neat x=true) (hl:light x=true):x.t=[]:=by
 obtain ⟨o,n,v,t⟩:=x
 simp only[neat,Bool.and_eq_true] at h
 have h1:=h.1
 simp only[light,Trm.op] at hl
 show t=[]
 rcases (by simpa using hl:o=0∨o=11∨o=1) with rfl | rfl | rfl<;>simpa using h1
theorem all_leaf {x:Trm} (h:x.t=[]):x.all=1:=by
 obtain ⟨o,n,v,t⟩:=x
 replace h:t=[]:=h
 subst h
 rfl
theorem all_pos (x:Trm):1≤x.all:=by obtain ⟨o,n,v,t⟩:=x;rw[Trm.all];omega
theorem allL_app (l m:List Trm):allL (l++m)=allL l+allL m:=by
 induction l with
 | nil=>simp[allL]
 | cons x l ih=>rw[List.cons_append,allL,allL,ih];omega
def Subs (b:List (Int × Trm)):Prop:=∀p∈b,light p.2=true∧neat p.2=true
theorem Subs.look {b:List (Int × Trm)} (h:Subs b) {n:Int} {x:Trm} (hx:b.lookup n=some x):light x=true∧neat x=true:=by
 induction b with
 | nil=>cases hx
 | cons p b ih=>
  rw[List.lookup_cons] at hx
  split at hx
  ·cases hx;exact h p (by simp)
  ·exact ih (fun q hq=>h q (List.mem_cons_of_mem _ hq)) hx
theorem Subs.rev {b:List (Int × Trm)} (h:Subs b):Subs b.reverse:=fun p hp=>h p (List.mem_reverse.1 hp)
theorem put_one {b:List (Int × Trm)} (h:Subs b):∀x:Trm,neat x=true→(put b x).all=x.all∧neat (put b x)=true:=by
 intro x
 induction x using Trm.ind with
 | h o n v t ih=>
  intro hx
  have hp:=neat_parts hx
  have key:∀l:List Trm,(∀y∈l,(put b y).all=y.all∧neat (put b y)=true)→allL (putL b l)=allL l∧neatL (putL b l)=true∧(putL b l).isEmpty=l.isEmpty:=fun l=>by
   induction l with
   | nil=>intro _;exact ⟨rfl,rfl,rfl⟩
   | cons y l ihl=>
    intro hy
    obtain ⟨h1,h2,_⟩:=ihl fun z hz=>hy z (List.mem_cons_of_mem _ hz)
    obtain ⟨h3,h4⟩:=hy y (by simp)
    exact ⟨by rw[putL,allL,allL,h1,h3],by rw[putL,neatL,h2,h4];rfl,rfl⟩
  obtain ⟨k1,k2,k3⟩:=key t fun y hy=>ih y hy (hp y hy)
  have hsame:(mk o n v (putL b t)).all=(mk o n v t).all∧neat (mk o n v (putL b t))=true:=by
   refine ⟨by rw[Trm.all,Trm.all,k1],?_⟩
   simp only[neat,Bool.and_eq_true] at hx ⊢
   exact ⟨by rw[k3];exact hx.1,k2⟩
  unfold put
  split
  ·rename_i ho
   split
   ·rename_i x hx'
    obtain ⟨g1,g2⟩:=h.look hx'
    refine ⟨?_,g2⟩
    rw[all_leaf (light_leaf g2 g1)]
    subst ho
    have:t=[]:=light_leaf hx rfl
    subst this
    rfl
   ·exact hsame
  ·exact hsame
theorem neatL_app {l m:List Trm}:neatL (l++m)=(neatL l&&neatL m):=by
 induction l with
 | nil=>simp[neatL]
 | cons x l ih=>rw[List.cons_append,neatL,neatL,ih,Bool.and_assoc]
theorem neat_mk {o n:Int} {v:List Int} {t:List Trm} (ho:o≠0∧o≠1∧o≠11∧o≠13) (ht:neatL t=true):neat (mk o n v t)=true:=by
 simp only[neat,ht,Bool.and_true]
 simp[ho]
theorem prim_small (F:Int→List Dat→Option Dat) (n:Int) (l:List Trm) (cs:List Dat) (h:neatL l=true):(prim F n l cs).1.all≤1+allL l∧neat (prim F n l cs).1=true:=by
 have hm:neat (mk 10 n [] l)=true:=neat_mk (by decide) h
 have ha:(mk 10 n [] l).all≤1+allL l:=by rw[Trm.all];exact Nat.le_refl _
 unfold prim
 split
 ·exact ⟨ha,hm⟩
 ·split
  ·exact ⟨ha,hm⟩
  ·exact ⟨by rw[Trm.all,allL];omega,rfl⟩
theorem flat_small:∀l:List Trm,neatL l=true→allL (flat l)≤allL l∧neatL (flat l)=true
 | [],_=>⟨Nat.le_refl _,rfl⟩
 | x::l,h=>by
  simp only[neatL,Bool.and_eq_true] at h
  obtain ⟨h1,h2⟩:=flat_small l h.2
  unfold flat
  split
  ·obtain ⟨o,n,v,t⟩:=x
   have ht:=neatL_iff.2 (neat_parts h.1)
   simp only[Trm.t] at ht ⊢
   rw[allL_app,neatL_app,allL,Trm.all,ht,h2]
   exact ⟨by omega,rfl⟩
  ·rw[allL,allL,neatL,h.1,h2]
   exact ⟨by omega,rfl⟩
theorem allL_filter (p:Trm→Bool) (l:List Trm):allL (l.filter p)≤allL l:=by
 induction l with
 | nil=>exact Nat.le_refl _
 | cons x l ih=>
  rw[List.filter_cons]
  split
  ·rw[allL,allL];omega
  ·rw[allL];omega
theorem seq_small (l:List Trm) (h:neatL l=true):(seq l).all≤1+allL l∧neat (seq l)=true:=by
 obtain ⟨h1,h2⟩:=flat_small l h
 have hsp:∀x,(flat l).getLast?=some x→flat l=(flat l).dropLast++[x]:=fun x hx=>by
  obtain ⟨ys,hy⟩:=List.getLast?_eq_some_iff.1 hx
  rw[hy];simp
 unfold seq
 split
 ·rename_i x _ hx
  have:=hsp x hx
  have hm:=neatL_iff.1 h2 x (by rw[this];simp)
  have:=allL_mem (l:=flat l) (x:=x) (by rw[this];simp)
  exact ⟨by omega,hm⟩
 ·rename_i r x hx _
  have he:=hsp x hx
  have hf:=allL_filter (fun x=>!idle x) (flat l).dropLast
  have ha:allL (flat l)=allL (flat l).dropLast+x.all:=by
   conv=>lhs;rw[he]
   rw[allL_app,allL,allL];omega
  refine ⟨?_,neat_mk (by decide) ?_⟩
  ·rw[Trm.all,allL_app,allL,allL]
   omega
  ·refine neatL_iff.2 fun y hy=>neatL_iff.1 h2 y ?_
   rw[he]
   rcases List.mem_append.1 hy with hy | hy
   ·exact List.mem_append_left _ ((List.mem_filter.1 hy).1)
   ·exact List.mem_append_right _ hy
 ·exact ⟨by rw[Trm.all,allL];omega,rfl⟩
theorem lets_small (last:Trm):∀(vs:List Int) (l:List Trm),neatL l=true→Subs (lets last vs l).1∧allL (lets last vs l).2.2≤allL (l.take vs.length)∧neatL (lets last vs l).2.2=true
 | [],l,_=>by unfold lets;exact ⟨(fun p hp=>by simp at hp),by simp[allL],rfl⟩
 | v::vs,[],_=>by unfold lets;exact ⟨(fun p hp=>by simp at hp),by simp[allL],rfl⟩
 | v::vs,x::l,h=>by
  simp only[neatL,Bool.and_eq_true] at h
  obtain ⟨h1,h2,h3⟩:=lets_small last vs l h.2
  unfold lets
  simp only[List.length_cons,List.take_succ_cons,allL]
  split
  ·rename_i hl
   refine ⟨fun p hp=>?_,(by show allL (lets last vs l).2.2≤_;omega),h3⟩
   rcases List.mem_cons.1 hp with rfl | hp
   ·exact ⟨hl,h.1⟩
   ·exact h1 p hp
  ·split
   ·refine ⟨h1,?_,?_⟩
    ·show allL (x::(lets last vs l).2.2)≤_
     rw[allL];omega
    ·show neatL (x::(lets last vs l).2.2)=true
     rw[neatL,h.1,h3];rfl
   ·exact ⟨h1,by omega,h3⟩
theorem letT_small (vars:List Int) (l:List Trm) (h:neatL l=true):(letT vars l).all≤1+allL l∧neat (letT vars l)=true:=by
 unfold letT
 split
 ·exact ⟨by rw[Trm.all];exact Nat.le_refl _,neat_mk (by decide) h⟩
 ·rename_i last hlast
  have hml:=List.mem_of_getElem? hlast
  have hnl:=neatL_iff.1 h last hml
  obtain ⟨h1,h2,h3⟩:=lets_small last vars l h
  obtain ⟨p1,p2⟩:=put_one h1.rev last hnl
  have ha:allL (l.take vars.length)+last.all≤allL l:=by
   conv=>rhs;rw[←List.take_append_drop vars.length l]
   rw[allL_app]
   have:=allL_mem (l:=l.drop vars.length) (x:=last) (by
    rw[List.mem_iff_getElem?]
    exact ⟨0,by rw[List.getElem?_drop];simpa using hlast⟩)
   omega
  show (if (lets last vars l).2.1.isEmpty=true then put (lets last vars l).1.reverse last else mk 8 0 (lets last vars l).2.1 ((lets last vars l).2.2++[put (lets last vars l).1.reverse last])).all≤_∧neat (if (lets last vars l).2.1.isEmpty=true then put (lets last vars l).1.reverse last else mk 8 0 (lets last vars l).2.1 ((lets last vars l).2.2++[put (lets last vars l).1.reverse last]))=true
  split
  ·exact ⟨by omega,p2⟩
  ·refine ⟨?_,neat_mk (by decide) ?_⟩
   ·rw[Trm.all,allL_app,allL,allL];omega
   ·rw[neatL_app,h3,neatL,p2];rfl
theorem post_small (F:Int→List Dat→Option Dat) (op n:Int) (v:List Int) (t:List Trm) (cs:List Dat) (h:neatL t=true) (hm:neat (mk op n v t)=true):(post F op n v t cs).1.all≤1+allL t∧neat (post F op n v t cs).1=true:=by
 have self:(mk op n v t).all≤1+allL t∧neat (mk op n v t)=true:=⟨by rw[Trm.all];exact Nat.le_refl _,hm⟩
 have part:∀y∈t,y.all≤1+allL t∧neat y=true:=fun y hy=>⟨by have:=allL_mem hy;omega,neatL_iff.1 h y hy⟩
 unfold post
 split
 ·split
  ·exact self
  ·rename_i hd r
   have hr:neatL r=true:=neatL_iff.2 fun y hy=>neatL_iff.1 h y (List.mem_cons_of_mem _ hy)
   have hd1:=neatL_iff.1 h hd (by simp)
   have hp:=all_pos hd
   split
   ·obtain ⟨a,b⟩:=prim_small F hd.n r cs hr
    exact ⟨by rw[allL];omega,b⟩
   ·split
    ·split
     ·rename_i b hb
      have hbn:=neat_parts hd1 b (by rw[hb];simp)
      have hba:hd.all=1+(b.all+0):=by
       obtain ⟨o,n',v',t'⟩:=hd
       replace hb:t'=[b]:=hb
       subst hb
       rfl
      obtain ⟨c,d⟩:=letT_small hd.v (r++[b]) (by rw[neatL_app,hr,neatL,hbn];rfl)
      rw[allL_app,allL,allL] at c
      refine ⟨?_,d⟩
      show (letT hd.v (r++[b])).all≤_
      rw[allL];omega
     ·exact self
    ·exact self
 split
 ·split
  ·rename_i a b c
   split
   ·split
    ·split
     ·exact part c (by simp)
     ·exact part b (by simp)
    ·exact self
   ·split
    ·exact part b (by simp)
    ·exact self
  ·exact self
 split
 ·exact prim_small F n t cs h
 split
 ·exact seq_small t h
 split
 ·exact letT_small v t h
 split
 ·split
  ·rename_i last hl
   split
   ·exact self
   ·exact part last (List.mem_of_getElem? hl)
  ·exact self
 split
 ·split
  ·rename_i a
   split
   ·exact part a (by simp)
   ·exact self
  ·exact self
 ·exact self
theorem termL_len (F:Int→List Dat→Option Dat):∀(l:List Trm) (cs:List Dat),(termL F l cs).1.length=l.length
 | [],_=>rfl
 | x::l,cs=>by rw[termL,List.length_cons,List.length_cons,termL_len F l]
theorem term_small (F:Int→List Dat→Option Dat):∀(x:Trm) (cs:List Dat),neat x=true→(term F x cs).1.all≤x.all∧neat (term F x cs).1=true:=by
 intro x
 induction x using Trm.ind with
 | h o n v t ih=>
  intro cs hx
  have hp:=neat_parts hx
  have key:∀(l:List Trm) (cs:List Dat),(∀y∈l,∀cs,(term F y cs).1.all≤y.all∧neat (term F y cs).1=true)→allL (termL F l cs).1≤allL l∧neatL (termL F l cs).1=true:=fun l=>by
   induction l with
   | nil=>intro cs _;exact ⟨Nat.le_refl _,rfl⟩
   | cons y l ihl=>
    intro cs hy
    obtain ⟨a,b⟩:=hy y (by simp) cs
    obtain ⟨c,d⟩:=ihl (term F y cs).2 fun z hz=>hy z (List.mem_cons_of_mem _ hz)
    rw[termL,allL,allL,neatL,b,d]
    exact ⟨by omega,rfl⟩
  obtain ⟨k1,k2⟩:=key t cs fun y hy cs=>ih y hy cs (hp y hy)
  have hm:neat (mk o n v (termL F t cs).1)=true:=by
   simp only[neat,Bool.and_eq_true] at hx ⊢
   refine ⟨?_,k2⟩
   have:(termL F t cs).1.isEmpty=t.isEmpty:=by
    have:=termL_len F t cs
    cases t with
    | nil=>rfl
    | cons _ _=>cases h:(termL F (_::_) cs).1 with
     | nil=>rw[h] at this;cases this
     | cons _ _=>rfl
   rw[this];exact hx.1
  obtain ⟨a,b⟩:=post_small F o n v (termL F t cs).1 (termL F t cs).2 k2 hm
  rw[term,Trm.all]
  exact ⟨by omega,b⟩
end Fd
end
section
open Go Go.RowKit Go.Maps Go.ChangeMaps Go.MapKept
open Go.WideElems (Fit findIdx_born findIdx_arr modify_last set_self )
theorem key_int:Keyed Tryz.prog 3:=int_keyed Tryz.underlying3
theorem isKeyZ (x:Int):WideAt.IsKeyLit (.int .i64 x):=by simp[WideAt.IsKeyLit]
theorem zeroB (w:World):(zeroValue 4).run Tryz.prog w=.ok (.bool false) w:=by kernel_rfl
theorem wf_i64 {x:Int} (h:I64 x):(Lit.int .i64 x).wf=true:=by
 have h1:=h.1
 have h2:=h.2
 have e1:IntKind.i64.min = -9223372036854775808:=by decide
 have e2:IntKind.i64.max=9223372036854775807:=by decide
 simp[Lit.wf,e1,e2];omega
theorem keyOf_i64 {x:Int} (h:I64 x):keyOf Tryz.prog 3 (.int .i64 x)=some (.int .i64 x):=keyOf_int_mk Tryz.underlying3 (wf_i64 h)
def MapVB (W:World) (b n:Nat) (f:Int→Bool):Prop:=∃D:DataW Unit,W.ownsMap Tryz.prog 3 (plainElem Tryz.prog 4) b n D∧IsMap D∧∀x,D.atKey (.int .i64 x) (.lit (.bool false))=.lit (.bool (f x))
theorem MapVB.new (W:World):MapVB (W.alloc (.map #[] 0)) W.heap.size 0 (fun _=>false):=⟨_,World.ownsMap_made _ _ _ _,isMap_empty,fun x=>by simp[DataW.atKey]⟩
theorem MapVB.lt {W:World} {b n:Nat} {f:Int→Bool} (h:MapVB W b n f):b<W.heap.size:=let ⟨_,h,_⟩:=h;h.lt
theorem ownsMap_block {P:Program} {k:TypeId} {R:Value→Option (DataW Unit × List MemPlace)} {W W':World} {b n:Nat} {D:DataW Unit} (h:W.ownsMap P k R b n D) (hb:W'.heap[b]?=W.heap[b]?):W'.ownsMap P k R b n D:=by
 obtain ⟨es,clock,h1,h2⟩:=h
 exact ⟨es,clock,hb.trans h1,h2⟩
theorem MapVB.same {W W':World} {b n:Nat} {f:Int→Bool} (h:MapVB W b n f) (hb:W'.heap[b]?=W.heap[b]?):MapVB W' b n f:=let ⟨D,h1,h2⟩:=h;⟨D,ownsMap_block h1 hb,h2⟩
theorem MapVB.keep {W W':World} {b n:Nat} {f:Int→Bool} (h:MapVB W b n f) (hb:Below W.heap.size W W'):MapVB W' b n f:=h.same (hb.block _ h.lt)
theorem MapVB.mono {W:World} {b n n':Nat} {f:Int→Bool} (h:MapVB W b n f) (hn:n≤n'):MapVB W b n' f:=let ⟨D,h1,h2⟩:=h;⟨D,h1.mono hn,h2⟩
theorem MapVB.put {D:DataW Unit} {f:Int→Bool} (hD:IsMap D) (hf:∀x,D.atKey (.int .i64 x) (.lit (.bool false))=.lit (.bool (f x))) (k:Int) (c:Bool):∀x,(D.put (.int .i64 k) (.lit (.bool c))).atKey (.int .i64 x) (.lit (.bool false))=.lit (.bool (if x=k then c else f x)):=fun x=>by
 by_cases h:x=k
 ·subst h;rw[atKey_put_same hD (isKeyZ x),if_pos rfl]
 ·rw[atKey_put_other (by intro e;simp only[Lit.int.injEq,true_and] at e;omega),hf x,if_neg h]
theorem MapVB.del {D:DataW Unit} {f:Int→Bool} (hf:∀x,D.atKey (.int .i64 x) (.lit (.bool false))=.lit (.bool (f x))) (k:Int):∀x,(D.del (.int .i64 k)).atKey (.int .i64 x) (.lit (.bool false))=.lit (.bool (if x=k then false else f x)):=fun x=>by
 by_cases h:x=k
 ·subst h;rw[atKey_del_same,if_pos rfl]
 ·rw[atKey_del_other (by intro e;simp only[Lit.int.injEq,true_and] at e;omega),hf x,if_neg h]
section
variable {w : World} {ops : Array Oper} {rest : List Oper} {o : Oper} {a : Act} {Q : Exit → Act → World → Prop}
theorem wpList_lookVB (hg:Region.wanted o (yielded ops a.tmps)=true) (m x:Operand) (hop:o.op=Op.lookup 63 m x false) (b n:Nat) (f:Int→Bool) (hm:a.eval m=.map (some b)) (hown:MapVB w b n f) (k:Int) (hx:a.eval x=.int .i64 k) (hk:I64 k)
  (hK:wpList Tryz.prog ops Q rest (a.put o.dst (.bool (f k))) w):wpList Tryz.prog ops Q (o::rest) a w:=by
 obtain ⟨D,h1,h2,h3⟩:=hown
 exact wpList_lookup_own_bool w hg m x _ hop 3 4 key_int Tryz.underlying63 Tryz.underlying4 (zeroB w) b n D hm h1 _ _ hx (keyOf_i64 hk) (f k) (h3 k) hK
theorem wpList_putVB (hg:o.guard=none) (m x v:Operand) (hop:o.op=Op.mapUpdate 63 m x v) (b n:Nat) (f:Int→Bool) (hm:a.eval m=.map (some b)) (hown:MapVB w b n f) (hn:n<1000000000000000) (k:Int) (c:Bool) (hx:a.eval x=.int .i64 k) (hv:a.eval v=.bool c) (hk:I64 k)
  (hK:∀w',MapVB w' b (n+1) (fun x=>if x=k then c else f x)→w.grownBy w' (some b)→wpList Tryz.prog ops Q rest (a.put o.dst undef) w'):wpList Tryz.prog ops Q (o::rest) a w:=by
 obtain ⟨D,h1,h2,h3⟩:=hown
 refine wpList_mapUpdate_own w hg m x v _ hop 3 4 key_int Tryz.underlying63 _ b n D hm h1 (by unfold maxLen;omega) _ _ _ hx hv (keyOf_i64 hk) _ _ (plainElem_bool Tryz.underlying4 c) ?_
 intro w' h4 h5
 exact hK w' ⟨_,h4,h2.put _ _,MapVB.put h2 h3 k c⟩ h5
theorem wpList_delVB (hg:o.guard=none) (m x:Operand) (hop:o.op=Op.call { callee:=Callee.builtin Builtin.delete,args:=#[m,x],argTypes:=#[63,3] }) (b n:Nat) (f:Int→Bool) (hm:a.eval m=.map (some b)) (hown:MapVB w b n f) (k:Int) (hx:a.eval x=.int .i64 k) (hk:I64 k)
  (hK:∀w',MapVB w' b n (fun x=>if x=k then false else f x)→w.grownBy w' (some b)→wpList Tryz.prog ops Q rest (a.put o.dst (.tuple #[])) w'):wpList Tryz.prog ops Q (o::rest) a w:=by
 obtain ⟨D,h1,h2,h3⟩:=hown
 refine wpList_delete_own w hg m x _ _ hop 4 key_int Tryz.underlying63 _ b n D hm h1 _ _ hx (keyOf_i64 hk) ?_
 intro w' h4 h5
 exact hK w' ⟨_,h4,by obtain ⟨es,rfl⟩:=h2;exact ⟨_,rfl⟩,MapVB.del h3 k⟩ h5.grown
end
theorem entry_own {P:Program} {t k e:TypeId} {R:Value→Option (DataW Unit × List MemPlace)} {w:World} {b n:Nat} {D:DataW Unit} (h:w.ownsMap P k R b n D) (K:Keyed P k) (ht:P.underlying t=some (.map k e)) {z:Value} (hz:∀u:World,(zeroValue e).run P u=.ok z u) (hn:n<maxLen) {key:Value} {kl:Lit} (hkey:keyOf P k key=some kl) :
  ∃v0 st w1,(Instr.mapEntry t (.map (some b)) key).run P w=.ok (.tuple #[v0,st]) w1∧(∀c,c≠b→w1.heap[c]?=w.heap[c]?)∧w1.heap.size=w.heap.size∧∀val d ps,R val=some (d,ps)→∃w2,(Instr.entryStore t (.map (some b)) st val).run P w1=.ok () w2∧w2.ownsMap P k R b (n+1) (D.put kl d)∧w.grownBy w2 (some b):=by
 have H:=h
 obtain ⟨es,clock,hb,F,hs,hD⟩:=h
 obtain ⟨s1,s2,_⟩:=F.stamped
 have others:∀o c,c≠b→(setBlock w b o).heap[c]?=w.heap[c]?:=fun o c hc=>heap_setBlock_other hb _ hc
 rcases K.find w hkey es.toList F.keys with ⟨f1,f2⟩ | ⟨j,e0,f1,f2,f3⟩
 ·refine ⟨z,goInt clock,setBlock w b (.map (es.push ⟨key,z,clock⟩) (clock+1)),?_,others _,by simp[setBlock],fun val d ps hv=>?_⟩
  ·simp[Instr.mapEntry,run_underlying ht,MapKept.run_getObj_map hb,K.check w false hkey,f1,hz,MapKept.run_setObj_map _ hb,Result.andThen,setBlock]
  obtain ⟨w2,hrun,h1,h2⟩:=H.update K ht hn hkey hv
  have hup:(Instr.mapUpdate t (.map (some b)) key val).run P w=.ok () (setBlock w b (.map (es.push ⟨key,val,clock⟩) (clock+1))):=by
   simp[Instr.mapUpdate,run_underlying ht,MapKept.run_getObj_map hb,K.check w false hkey,f1,MapKept.run_setObj_map _ hb,Result.andThen,setBlock]
  obtain rfl:setBlock w b (.map (es.push ⟨key,val,clock⟩) (clock+1))=w2:=by simpa using hup.symm.trans hrun
  refine ⟨_,?_,h1,h2⟩
  have hw1:(setBlock w b (.map (es.push ⟨key,z,clock⟩) (clock+1))).heap[b]?=some (.map (es.push ⟨key,z,clock⟩) (clock+1)):=heap_setBlock_same hb _
  have hidx:(es.push ⟨key,z,clock⟩).findIdx? (fun e=>((e.born:Nat):Int)==((clock:Nat):Int))=some es.size:=by
   rw[findIdx_arr]
   refine findIdx_born (l:=(es.push ⟨key,z,clock⟩).toList) (j:=es.size) (e0:=⟨key,z,clock⟩) ?_ (by simp)
   rw[Array.toList_push,List.map_append]
   refine List.nodup_append.2 ⟨s2,by simp,fun p hp q hq=>?_⟩
   obtain ⟨x,hx,rfl⟩:=List.mem_map.1 hp
   have hq:q=clock:=by simpa using hq
   have:=s1 x hx
   omega
  have hmod:(es.push ⟨key,z,clock⟩).modify es.size (fun e=>{ e with val:=val })=es.push ⟨key,val,clock⟩:=by
   apply Array.ext'
   simp only[Array.toList_modify,Array.toList_push]
   exact modify_last _ _ es.toList
  simp[Instr.entryStore,MapKept.run_getObj_map hw1,asInt,asIntOf,goInt,hidx,hmod,MapKept.run_setObj_map _ hw1,Result.andThen]
  unfold setBlock
  simp
 ·have hj:es[j]?=some e0:=by simpa using f2
  have hsame:es.modify j (fun e=>{ e with key:=key })=es:=by
   apply Array.ext'
   rw[Array.toList_modify,modify_eq_set _ _ _ _ f2,show ({ e0 with key:=key }:MapEntry)=e0 by rw[←f3]]
   exact set_self _ _ _ f2
  refine ⟨e0.val,goInt e0.born,setBlock w b (.map es clock),?_,others _,by simp[setBlock],fun val d ps hv=>?_⟩
  ·simp[Instr.mapEntry,run_underlying ht,MapKept.run_getObj_map hb,K.check w false hkey,f1,hj,f3,K.stays w hkey,hsame,MapKept.run_setObj_map _ hb,Result.andThen,setBlock]
  obtain ⟨w2,hrun,h1,h2⟩:=H.update K ht hn hkey hv
  have hup:(Instr.mapUpdate t (.map (some b)) key val).run P w=.ok () (setBlock w b (.map (es.modify j fun e=>{ e with key:=key,val:=val }) clock)):=by
   simp[Instr.mapUpdate,run_underlying ht,MapKept.run_getObj_map hb,K.check w false hkey,f1,hj,f3,K.stays w hkey,MapKept.run_setObj_map _ hb,Result.andThen,setBlock]
  obtain rfl:setBlock w b (.map (es.modify j fun e=>{ e with key:=key,val:=val }) clock)=w2:=by simpa using hup.symm.trans hrun
  refine ⟨_,?_,h1,h2⟩
  have hw1:(setBlock w b (.map es clock)).heap[b]?=some (.map es clock):=heap_setBlock_same hb _
  have hidx:es.findIdx? (fun e=>((e.born:Nat):Int)==((e0.born:Nat):Int))=some j:=by
   rw[findIdx_arr]
   exact findIdx_born s2 f2
  have hmod:es.modify j (fun e=>{ e with val:=val })=es.modify j (fun e=>{ e with key:=key,val:=val }):=by
   apply Array.ext'
   simp only[Array.toList_modify,modify_eq_set _ _ _ _ f2,←f3]
  simp[Instr.entryStore,MapKept.run_getObj_map hw1,asInt,asIntOf,goInt,hidx,hmod,MapKept.run_setObj_map _ hw1,Result.andThen]
  unfold setBlock
  simp
def Laid (t:TypeId) (w w1:World) (b n:Nat) (f:Int→Bool) (k:Int) (st:Value):Prop:=(∀c,c≠b→w1.heap[c]?=w.heap[c]?)∧w1.heap.size=w.heap.size∧∀c:Bool,∃w2,(Instr.entryStore t (.map (some b)) st (.bool c)).run Tryz.prog w1=.ok () w2∧MapVB w2 b (n+1) (fun x=>if x=k then c else f x)∧w.grownBy w2 (some b)
section
variable {w : World} {ops : Array Oper} {rest : List Oper} {o : Oper} {a : Act} {Q : Exit → Act → World → Prop}
theorem wpList_entryVB (hg:o.guard=none) (m x:Operand) (hop:o.op=Op.mapEntry 63 m x) (b n:Nat) (f:Int→Bool) (hm:a.eval m=.map (some b)) (hown:MapVB w b n f) (hn:n<1000000000000000) (k:Int) (hx:a.eval x=.int .i64 k) (hk:I64 k)
  (hK:∀w1 v0 st,Hid (Laid 63 w w1 b n f k st)→wpList Tryz.prog ops Q rest (a.put o.dst (.tuple #[v0,st])) w1):wpList Tryz.prog ops Q (o::rest) a w:=by
 obtain ⟨D,h1,h2,h3⟩:=hown
 obtain ⟨v0,st,w1,hrun,ho,hs,hst⟩:=entry_own h1 key_int Tryz.underlying63 (z:=.bool false) zeroB (by unfold maxLen;omega) (keyOf_i64 hk)
 refine wpList_plain hg fun K' hK'=>?_
 unfold Oper.wp
 simp[execOp,hop,hm,hx,hrun,Result.andThen]
 refine hK' _ _ (hK w1 v0 st (Lib.hid ⟨ho,hs,fun c=>?_⟩))
 obtain ⟨w2,g1,g2,g3⟩:=hst (.bool c) _ _ (plainElem_bool Tryz.underlying4 c)
 exact ⟨w2,g1,⟨_,g2,h2.put _ _,MapVB.put h2 h3 k c⟩,g3⟩
theorem wpList_storeVB (hg:o.guard=none) (m s v:Operand) (hop:o.op=Op.entryStore 63 m s v) {w0:World} (b n:Nat) (f:Int→Bool) (k:Int) (st:Value) (c:Bool) (hl:Hid (Laid 63 w0 w b n f k st)) (hm:a.eval m=.map (some b)) (hs:a.eval s=st) (hv:a.eval v=.bool c)
  (hK:∀w',MapVB w' b (n+1) (fun x=>if x=k then c else f x)→w0.grownBy w' (some b)→wpList Tryz.prog ops Q rest (a.put o.dst undef) w'):wpList Tryz.prog ops Q (o::rest) a w:=by
 obtain ⟨w2,g1,g2,g3⟩:=hl.out.2.2 c
 refine wpList_plain hg fun K' hK'=>?_
 unfold Oper.wp
 simp[execOp,hop,hm,hs,hv,g1,Result.andThen]
 exact hK' _ _ (hK w2 g2 g3)
end
end
section
open Go Go.RowKit
theorem wp_region_invF {P:Program} {id:Nat} {Q:Exit→Act→World→Prop} {a0:Act} {w:World} {l:List Oper} (n:Nat) (I:Array Bool→Act→World→Prop) (hm:P.follows .mixedOrders=true) (hB:monoB l.toArray n a0.tmps.size=true)
  (h0:I (Array.replicate l.toArray.size false) a0 w.drew)
  (hops:∀i o,i<n→l.toArray[i]?=some o→∀(listed:Array Bool) (a:Act) (w1:World),listed.size=l.toArray.size→a.defers=a0.defers→a.tmps.size=a0.tmps.size→Rest l.toArray n a0 a→I listed a w1→listed.getD i false=false→(∀e∈o.after,Region.binds .any e=true→listed.getD e.on false=true) →
   o.wp P a w1 (fun a' w'=>∃v,a'=a.put o.dst v∧I (listed.setIfInBounds i true) a' w') Q)
  (hend:∀(listed:Array Bool) (a:Act) (w1:World),(∀i,i<n→listed.getD i false=true)→a.defers=a0.defers→a.tmps.size=a0.tmps.size→Rest l.toArray n a0 a→I listed a w1→wpList P l.toArray Q (l.drop n) a w1) :
  (Code.region id l.toArray true).wp P Q a0 w:=by
 simp only[monoB,monoG,Bool.and_eq_true,decide_eq_true_eq] at hB
 obtain ⟨⟨h1,h2,h3,h4,h5,h6⟩,h7⟩:=hB
 refine wp_region_any hm ?_
 have inv0:HeadInv .any l.toArray n (Array.replicate l.toArray.size false):=
  ⟨by simp,fun j oj _ hl=>(by rw[getD_replicate_false] at hl;cases hl),fun t _ ht=>getD_in (by simpa using ht) (getD_replicate_false _ _)⟩
 have hcount:((List.range n).filter fun i=>!(Array.replicate l.toArray.size false).getD i true).length=n:=by
  rw[List.filter_eq_self.2]
  ·simp
  ·intro i hi
   have:i<l.toArray.size:=by have:=List.mem_range.1 hi;omega
   have h':i<l.length:=by simpa using this
   simp[h']
 have:=any_inv (P:=P) (Q:=Q) (g:=l.toArray.size-n) (I:=fun listed a w=>listed.size=l.toArray.size∧a.defers=a0.defers∧a.tmps.size=a0.tmps.size∧Rest l.toArray n a0 a∧I listed a w) h1 h2 h3 h4 ?_ ?_ n _ a0 w.drew hcount inv0
  ⟨by simp,rfl,rfl,fun _ _=>rfl,h0⟩
 ·rwa[show n+(l.toArray.size-n)=l.toArray.size by omega] at this
 ·rintro listed a w1 i ⟨hls,hdf,hsz,hrest,hI⟩ hi hr
  obtain ⟨hun,o,ho,hdeps⟩:=mem_ready.1 hr
  unfold wpOp
  simp only[ho]
  have hg:Region.wanted o (yielded l.toArray a.tmps)=true:=wanted_of (R:=fun _ _ _=>True) (w:=w1) h7 (fun _ h=>by cases h) hi ho (by rw[hsz];exact Nat.le_refl _) (fun _ _ _ _ _ _ _=>trivial)
  rw[if_pos hg]
  left
  refine Oper.wp_mono ?_ (hops i o hi ho listed a w1 hls hdf hsz hrest hI (by
   have hlt:i<listed.size:=by rw[hls];omega
   simpa[hlt] using hun) hdeps)
  rintro a' w' ⟨v,rfl,hI'⟩
  refine ⟨by simpa using hls,?_,?_,?_,hI'⟩
  ·cases o.dst<;>exact hdf
  ·cases hdst:o.dst with
   | none=>exact hsz
   | some d=>simpa[Act.put] using hsz
  ·intro t ht
   cases hdst:o.dst with
   | none=>exact hrest t ht
   | some d'=>
    have hd':d' < a.tmps.size:=by
     have g1:=List.all_eq_true.1 (List.all_eq_true.1 h5 i (List.mem_range.2 hi)) i (List.mem_range.2 hi)
     simp only[ho,hdst,Bool.and_eq_true,decide_eq_true_eq] at g1
     rw[hsz];exact g1.1
    rw[put_getD hd',if_neg ?_]
    ·exact hrest t ht
    ·rintro rfl;exact ht i o hi ho hdst
 ·rintro listed a w1 ⟨hls,hdf,hsz,hrest,hI⟩ inv hall
  have hdl:(l.drop n).length=l.toArray.size-n:=by simp
  have g:=wpAny_of_seq (md:=.any) (Q':=Q) (l.drop n) n listed a w1 (fun j=>by simp[List.getElem?_drop]) (by rw[hdl,headDone_eq h4 inv hall];exact h6)
   (hend listed a w1 (fun i hi=>by
    have:=hall i hi
    have hlt:i<listed.size:=by rw[hls];omega
    simpa[hlt] using this) hdf hsz hrest hI)
  rwa[hdl] at g
theorem slotsF_at {ops:Array Oper} {n m i j d d':Nat} {oi oj:Oper} (h:slotsB ops n m=true) (hi:i<n) (hj:j<n) (hoi:ops[i]?=some oi) (hoj:ops[j]?=some oj) (hd:oi.dst=some d) (hd':oj.dst=some d'):d<m∧(i=j∨d≠d'):=by
 have h1:=List.all_eq_true.1 (List.all_eq_true.1 h i (List.mem_range.2 hi)) j (List.mem_range.2 hj)
 simp only[hoi,hoj,hd,hd',Bool.and_eq_true,decide_eq_true_eq,Bool.or_eq_true,ne_eq] at h1
 exact h1
def DepsF (ops:Array Oper) (n:Nat) (R:Nat→Value→World→Prop) (o:Oper) (a:Act) (w:World):Prop:=∀j oj d,j<n→ops[j]?=some oj→(∃e∈o.after,Region.binds .any e=true∧e.on=j)→oj.dst=some d→R j (a.tmps.getD d undef) w
def StF (Ph:Array Bool→World→Prop) (R:Nat→Value→World→Prop) (listed:Array Bool) (i:Nat) (o:Oper) (a:Act) (w1:World) (a':Act) (w':World):Prop:=∃v,a'=a.put o.dst v∧R i v w'∧Ph (listed.setIfInBounds i true) w'∧∀j u,j≠i→listed.getD j false=true→R j u w1→R j u w'
theorem wp_region_stF {P:Program} {id:Nat} {Q:Exit→Act→World→Prop} {a0:Act} {w:World} {l:List Oper} (n:Nat) (Ph:Array Bool→World→Prop) (R:Nat→Value→World→Prop) (hm:P.follows .mixedOrders=true) (hB:monoB l.toArray n a0.tmps.size=true)
  (h0:Ph (Array.replicate l.toArray.size false) w.drew)
  (hops:∀i o,i<n→l.toArray[i]?=some o→∀(listed:Array Bool) (a:Act) (w1:World),i<listed.size→(∀e∈o.after,Region.binds .any e=true→listed.getD e.on false=true)→Ph listed w1→listed.getD i false=false→DepsF l.toArray n R o a w1→Rest l.toArray n a0 a→o.wp P a w1 (StF Ph R listed i o a w1) Q)
  (hend:∀(listed:Array Bool) a w1,a.defers=a0.defers→a.tmps.size=a0.tmps.size→(∀i,i<n→listed.getD i false=true)→Ph listed w1→(∀i o d,i<n→l.toArray[i]?=some o→o.dst=some d→R i (a.tmps.getD d undef) w1)→Rest l.toArray n a0 a→wpList P l.toArray Q (l.drop n) a w1) :
  (Code.region id l.toArray true).wp P Q a0 w:=by
 have hB':=hB
 simp only[monoB,monoG,Bool.and_eq_true,decide_eq_true_eq] at hB'
 obtain ⟨⟨_,_,_,hn,hsl,_⟩,hgd⟩:=hB'
 refine wp_region_invF n (fun listed a W=>Ph listed W∧∀i o d,i<n→l.toArray[i]?=some o→listed.getD i false=true→o.dst=some d→R i (a.tmps.getD d undef) W) hm hB ⟨h0,fun i o d _ _ h=>by rw[getD_replicate_false] at h;cases h⟩ ?_ ?_
 ·intro i o hi ho listed a w1 hls hdf hsz hrest ⟨hph,hval⟩ hun hdeps
  have hlt:i<listed.size:=by rw[hls];omega
  refine Oper.wp_mono ?_ (hops i o hi ho listed a w1 hlt hdeps hph hun (fun j oj d hj hoj ⟨e,he,hb,hon⟩ hd=>hval j oj d hj hoj (by have:=hdeps e he hb;rwa[hon] at this) hd) hrest)
  rintro a' w' ⟨v,rfl,hv,hx,hkeep⟩
  refine ⟨v,rfl,hx,fun j oj d hj hoj hl hd=>?_⟩
  by_cases e:i=j
  ·subst e
   obtain rfl:oj=o:=Option.some.inj (hoj.symm.trans ho)
   have hd':=(slotsF_at hsl hi hi ho ho hd hd).1
   rw[hd,put_getD (by rw[hsz];exact hd'),if_pos rfl]
   exact hv
  ·rw[getD_set_ne false e] at hl
   have hold:=hval j oj d hj hoj hl hd
   have hsame:(a.put o.dst v).tmps.getD d undef=a.tmps.getD d undef:=by
    cases hdo:o.dst with
    | none=>rfl
    | some d'=>
     obtain ⟨hd',hne⟩:=slotsF_at hsl hi hj ho hoj hdo hd
     rw[put_getD (by rw[hsz];exact hd'),if_neg (hne.resolve_left e)]
   rw[hsame]
   exact hkeep j _ (fun h=>e h.symm) hl hold
 ·intro listed a w1 hall hdf hsz hrest ⟨hph,hval⟩
  exact hend listed a w1 hdf hsz hall hph (fun i o d hi ho hd=>hval i o d hi ho (hall i hi) hd) hrest
theorem wp_region_appF {P:Program} {id:Nat} {Q:Exit→Act→World→Prop} {a0:Act} {w:World} {l:List Oper} (n p:Nat) (R:Nat→Value→World→Prop) (T:Nat→Prop) (hm:P.follows .mixedOrders=true) (hB:monoB l.toArray n a0.tmps.size=true)
  (hR:∀i v A B,i≠p→R i v A→Turned T w.drew A→Turned T A B→R i v B) (hRp:∀v A B,R p v A→Turned T w.drew A→Below A.heap.size A B→R p v B)
  (hops:∀i o,i<n→i≠p→l.toArray[i]?=some o→∀(a:Act) (w1:World),Turned T w.drew w1→DepsF l.toArray n R o a w1→Rest l.toArray n a0 a→o.wp P a w1 (fun a' w'=>∃v,a'=a.put o.dst v∧R i v w'∧Below w1.heap.size w1 w') Q)
  (hp:∀o,p<n→l.toArray[p]?=some o→∀(a:Act) (w1:World),Below w.drew.heap.size w.drew w1→DepsF l.toArray n R o a w1→Rest l.toArray n a0 a→o.wp P a w1 (fun a' w'=>∃v,a'=a.put o.dst v∧R p v w'∧Turned T w1 w') Q)
  (hend:∀a w1,a.defers=a0.defers→a.tmps.size=a0.tmps.size→Turned T w.drew w1→(∀i o d,i<n→l.toArray[i]?=some o→o.dst=some d→R i (a.tmps.getD d undef) w1)→Rest l.toArray n a0 a→wpList P l.toArray Q (l.drop n) a w1) :
  (Code.region id l.toArray true).wp P Q a0 w:=by
 refine wp_region_stF n (fun listed W=>Turned T w.drew W∧(listed.getD p false=false→Below w.drew.heap.size w.drew W)) R hm hB ⟨Turned.refl _ _,fun _=>Below.refl _ _⟩ ?_ ?_
 ·intro i o hi ho listed a w1 hlt _ ⟨ht,hb⟩ hun hdeps hrest
  by_cases e:i=p
  ·subst e
   refine Oper.wp_mono ?_ (hp o hi ho a w1 (hb hun) hdeps hrest)
   rintro a' w' ⟨v,rfl,hv,hx⟩
   exact ⟨v,rfl,hv,⟨ht.next hx,fun h=>by simp[hlt] at h⟩,fun j u hj _ h=>hR j u _ _ hj h ht hx⟩
  ·refine Oper.wp_mono ?_ (hops i o hi e ho a w1 ht hdeps hrest)
   rintro a' w' ⟨v,rfl,hv,hx⟩
   refine ⟨v,rfl,hv,⟨ht.next (.of_below hx),fun h=>?_⟩,fun j u hj _ h=>?_⟩
   ·rw[getD_set_ne false e] at h
    have:=hb h
    exact this.trans (hx.mono this.size)
   ·by_cases e2:j=p
    ·subst e2;exact hRp u _ _ h ht hx
    ·exact hR j u _ _ e2 h ht (.of_below hx)
 ·intro listed a w1 hdf hsz _ ⟨ht,_⟩ hval hrest
  exact hend a w1 hdf hsz ht hval hrest
theorem wp_region_newF {P:Program} {id:Nat} {Q:Exit→Act→World→Prop} {a0:Act} {w:World} {l:List Oper} (n:Nat) (R:Nat→Value→World→Prop) (hm:P.follows .mixedOrders=true) (hB:monoB l.toArray n a0.tmps.size=true)
  (hR:∀i v A B,R i v A→Below w.drew.heap.size w.drew A→Below A.heap.size A B→R i v B)
  (hops:∀i o,i<n→l.toArray[i]?=some o→∀(a:Act) (w1:World),Below w.drew.heap.size w.drew w1→DepsF l.toArray n R o a w1→Rest l.toArray n a0 a→o.wp P a w1 (fun a' w'=>∃v,a'=a.put o.dst v∧R i v w'∧Below w1.heap.size w1 w') Q)
  (hend:∀a w1,a.defers=a0.defers→a.tmps.size=a0.tmps.size→Below w.drew.heap.size w.drew w1→(∀i o d,i<n→l.toArray[i]?=some o→o.dst=some d→R i (a.tmps.getD d undef) w1)→Rest l.toArray n a0 a→wpList P l.toArray Q (l.drop n) a w1) :
  (Code.region id l.toArray true).wp P Q a0 w:=by
 refine wp_region_stF n (fun _ W=>Below w.drew.heap.size w.drew W) R hm hB (Below.refl _ _) ?_ ?_
 ·intro i o hi ho listed a w1 hlt _ hb hun hdeps hrest
  refine Oper.wp_mono ?_ (hops i o hi ho a w1 hb hdeps hrest)
  rintro a' w' ⟨v,rfl,hv,hx⟩
  exact ⟨v,rfl,hv,hb.trans (hx.mono hb.size),fun j u _ _ h=>hR j u _ _ h hb hx⟩
 ·intro listed a w1 hdf hsz _ hb hval hrest
  exact hend a w1 hdf hsz hb hval hrest
section
variable {P : Program} {o : Oper} {a : Act} {w : World} {Q : Exit → Act → World → Prop}
theorem DepsF.at {ops:Array Oper} {n:Nat} {R:Nat→Value→World→Prop} (h:DepsF ops n R o a w) (j d:Nat) (hB:depB ops n o j d=true):R j (a.tmps.getD d undef) w:=dep_at h j d hB
theorem wp_valF {K:Act→World→Prop} {v:Value} {w':World} (h:(execOp a.eval o).run P w=.ok (.value v) w') (hK:K (a.put o.dst v) w'):o.wp P a w K Q:=by
 unfold Oper.wp
 rw[h]
 exact hK
theorem wp_moveF {K:Act→World→Prop} {s:Nat} (ho:o.op=.move (.tmp s)) (hK:K (a.put o.dst (a.tmps.getD s undef)) w):o.wp P a w K Q:=wp_valF (by unfold execOp;rw[ho];rfl) hK
theorem wp_callF {K:Act→World→Prop} {f:FuncId} {args:Array Operand} {ts:Array TypeId} {vals:Array Value} {R':Ending→World→Prop} (ho:o.op=.call { callee:=.value (.func f),args:=args,argTypes:=ts }) (hv:args.map a.eval=vals) (hf:∀args w,(callFunc f args).run P w=.ok (.enter f args) w)
  (hc:Calls P f vals w R') (hR:∀e w',R' e w'→∃v,e=.returned v∧K (a.put o.dst v) w'):o.wp P a w K Q:=by
 have hef:a.eval (.func f)=.func (.func f) #[] #[]:=rfl
 have hrun:(execOp a.eval o).run P w=.ok (.enter f vals) w:=by
  simp[execOp,ho,resolve,Deferred.ofValue,invoke,hef,hf,hv]
 unfold Oper.wp
 rw[hrun]
 simp only[Oper.upon]
 refine hc.mono fun e w' h=>?_
 obtain ⟨v,rfl,hv⟩:=hR e w' h
 exact hv
end
def spellF (f:Nat→Value):Nat→List Bool→List Value→List Value
 | _,_,[]=>[]
 | _,[],l=>l
 | i,true::m,_::l=>f i::spellF f (i+1) m l
 | i,false::m,v::l=>v::spellF f (i+1) m l
theorem spell_getF (f:Nat→Value):∀(l:List Value) (i:Nat) (m:List Bool) (j:Nat),(spellF f i m l)[j]?=(l[j]?).map fun v=>if m.getD j false=true then f (i+j) else v
 | [],i,m,j=>by simp[spellF]
 | v::l,i,[],j=>by
  have:spellF f i [] (v::l)=v::l:=by rw[spellF];simp
  rw[this]
  cases h:(v::l)[j]?<;>simp
 | v::l,i,true::m,0=>by simp[spellF]
 | v::l,i,false::m,0=>by simp[spellF]
 | v::l,i,true::m,j+1=>by
  rw[spellF,List.getElem?_cons_succ,List.getElem?_cons_succ,spell_getF f l (i+1) m j]
  simp only[List.getD_cons_succ,show i+1+j=i+(j+1) by omega]
 | v::l,i,false::m,j+1=>by
  rw[spellF,List.getElem?_cons_succ,List.getElem?_cons_succ,spell_getF f l (i+1) m j]
  simp only[List.getD_cons_succ,show i+1+j=i+(j+1) by omega]
def maskBF (ops:Array Oper) (n:Nat) (m:List Bool):Bool:=(List.range n).all fun i=>match ops[i]? with | some o=>(match o.dst with | some d=>m.getD d false | none=>true) | none=>true
theorem act_spellF {ops:Array Oper} {n:Nat} {a a0:Act} (m:List Bool) (hB:maskBF ops n m=true) (hd:a.defers=a0.defers) (hs:a.tmps.size=a0.tmps.size) (hr:Rest ops n a0 a):∃f:Nat→Value,a = { tmps:=(spellF f 0 m a0.tmps.toList).toArray,defers:=a0.defers }∧∀t,f t=a.tmps.getD t undef:=by
 refine ⟨fun t=>a.tmps.getD t undef,?_,fun _=>rfl⟩
 obtain ⟨t,d⟩:=a
 obtain ⟨t0,d0⟩:=a0
 simp only at hd hs
 subst hd
 simp only[Act.mk.injEq,and_true]
 apply Array.ext_getElem?
 intro j
 have h0:∀l:List Value,l.toArray[j]?=l[j]?:=fun l=>by simp
 rw[h0 (spellF _ _ _ _),spell_getF]
 rw[Array.getElem?_toList]
 by_cases hj:j<t0.size
 ·rw[Array.getElem?_eq_getElem hj,Array.getElem?_eq_getElem (by rw[hs];exact hj)]
  simp only[Option.map_some,Option.some.injEq,Nat.zero_add]
  by_cases hm:m.getD j false=true
  ·rw[if_pos hm]
   simp[Array.getD,hs,hj]
  ·rw[if_neg hm]
   have h1:=hr j (fun i o hi ho e=>by
    have h2:=List.all_eq_true.1 hB i (List.mem_range.2 hi)
    simp only[ho,e] at h2
    exact hm h2)
   simpa[Array.getD,hs,hj] using h1
 ·rw[Array.getElem?_eq_none (by omega),Array.getElem?_eq_none (by omega)]
  rfl
end
section
open Go Go.RowKit
theorem wpList_ranA {P:Program} {ops:Array Oper} {rest:List Oper} {Q:Exit→Act→World→Prop} {o:Oper} {a:Act} {w w':World} {v u y:Value} {ts:Array TypeId} (hg:o.guard=none) (s x:Operand) (ho:o.op=.call { callee:=.builtin .append,args:=#[s,x],argTypes:=ts }) (hs:a.eval s=u) (hx:a.eval x=y)
  (hr:∀ty,(Builtin.append_ ts ty #[u,y]).run P w=.ok v w') (h:wpList P ops Q rest (a.put o.dst v) w'):wpList P ops Q (o::rest) a w:=by
 refine wpList_plain hg fun K hK=>?_
 unfold Oper.wp execOp
 simp only[ho,resolve,invoke,builtin,Sem.run_bind,Sem.run_pure,Result.andThen_ok,List.map_toArray,List.map_cons,List.map_nil,hs,hx,hr]
 exact hK _ _ h
theorem ownsRow_lower {w:World} {base base' n size:Nat} {e:TypeId} {v:Value} {xs:List Value} (h:w.ownsRow base e size v n xs) (hb:base'≤base):w.ownsRow base' e size v n xs:=by
 refine ⟨h.1,?_⟩
 rcases h.2 with h' | ⟨g,cap,cur,k1,k2,k3⟩
 ·exact .inl h'
 ·exact .inr ⟨g,cap,cur,k1,Nat.le_trans hb k2,k3⟩
theorem own_from {W:World} {base n size:Nat} {e:TypeId} {v:Value} {xs:List Value} (h:W.ownsRow base e size v n xs):∀g,v.ownBlock=some g→base≤g:=by
 intro r hr
 rcases h.2 with ⟨rfl,_⟩ | ⟨g,cap,cur,rfl,hb,_⟩
 ·cases hr
 ·simp only[Value.ownBlock,Option.some.injEq] at hr
  omega
theorem own_form {w:World} {base n size:Nat} {e:TypeId} {v:Value} {xs:List Value} (h:w.ownsRow base e size v n xs):∃o c,v=.slice o n c:=by
 rcases h.2 with ⟨h1,h2⟩ | ⟨g,cap,cur,h1,_⟩
 ·exact ⟨none,0,by rw[h1,h2]⟩
 ·exact ⟨_,_,h1⟩
theorem under_int:Tryz.prog.underlying 3=some (.int .i64):=by kernel_rfl
theorem growNil_any (n:Nat) (w:World) (hn:n≤8000000) :
  Calls Tryz.prog 88 #[.slice none 0 0,.int .i64 n] w fun e w'=>∃v,e=.returned v∧w'.ownsRow w.heap.size 3 1 v 0 []∧(∃o cap,v=.slice o 0 cap)∧Below w.heap.size w w':=by
 have h1:decide ((n:Int)<0)=false:=decide_eq_false (by omega)
 rcases Nat.eq_zero_or_pos n with h0 | h0
 ·subst h0
  go_enter Tryz.func88,Tryz.ntmps88
  go_wp2_with fail
  go_ret
  exact ⟨_,rfl,World.ownsRow_nil _ _ _ _,⟨_,_,rfl⟩,Below.refl _ _⟩
 ·obtain ⟨i0,hi,hz0,hz1,hz2⟩:=info_parts info_int
  have h4:decide ((n:Int) > 0)=true:=decide_eq_true (by omega)
  have hrz:∀ty,(Builtin.append_ #[23,3] ty #[.slice none 0 0,.int .i64 n]).run Tryz.prog w=.ok (.slice (some ⟨w.heap.size,0,none⟩) n (grownCap w n 0 3)) (w.drew.alloc (.cells (#[]++Builtin.zeroCells #[.int .i64 0] n++Builtin.zeroCells #[.int .i64 0] (grownCap w n 0 3-n)) 3)):=fun ty=>by
   have h:=Lib.run_append_grow_zeros w 23 3 ty 3 i0 (.int .i64 0) .i64 .i64 Tryz.underlying23 under_int hi hz0 none 0 0 [] (run_firstCells_none w.drew i0.size 0 0 0) n h0 (by omega) (by omega) (by omega) (by rw[hz2];omega) (by rw[hz2];exact growslice_fits (by omega) (by omega))
   rw[Nat.zero_add] at h
   exact h
  have hGn:n≤grownCap w n 0 3:=grownCap_ge w _ _ _
  obtain ⟨G,hG⟩:∃G,G=grownCap w n 0 3:=⟨_,rfl⟩
  have hG63:G≤maxLen:=by
   have:=grownCap_le_maxLen w n 0 3 (by unfold maxLen;omega)
   rw[←hG] at this
   exact this
  rw[←hG] at hrz hGn
  obtain ⟨cur,hcur⟩:∃cur,(#[]++Builtin.zeroCells #[.int .i64 0] n++Builtin.zeroCells #[.int .i64 0] (G-n))=cur:=⟨_,rfl⟩
  have hcs:cur.size=G:=by
   rw[←hcur];simp[Builtin.zeroCells];omega
  rw[hcur] at hrz
  have HW:=Lib.hid (show (w.drew.alloc (.cells cur 3)).ownsRow w.heap.size 3 1 (.slice (some ⟨w.heap.size,0,none⟩) 0 G) 0 [] from ⟨rfl,.inr ⟨w.heap.size,G,cur,rfl,Nat.le_refl _,World.alloc_heap_new w.drew _,Nat.zero_le _,hG63,by omega,by simp⟩⟩)
  have HG:=Lib.hid hG
  clear hG hcur hcs
  go_enter Tryz.func88,Tryz.ntmps88
  go_upto_region 5 with fail
  go_wp2_with (at_builtin;refine wpList_ranA rfl (.tmp 20) (.tmp 21) rfl rfl rfl hrz ?_)
  go_wp2_with fail
  go_ret
  exact ⟨_,rfl,HW.out,⟨_,_,rfl⟩,((Below.refl w.heap.size w).drew).alloc (Nat.le_refl _) _⟩
theorem concat_any (l1 l2:List Int) (v1 v2:Value) (B sb:Nat) (w:World) (h1:SlC w B 1 IntR l1 v1) (h2:SlC w B 1 IntR l2 v2) (hB:B≤w.heap.size) (hb:BoxL w sb 23 [v1,v2]) (hm1:l1.length≤4000000) (hm2:l2.length≤4000000) :
  Calls Tryz.prog 56 #[.slice (some ⟨sb,0,none⟩) 2 2] w fun e w'=>∃v,e=.returned v∧w'.ownsRow w.heap.size 3 1 v (l1++l2).length ((l1++l2).map (Value.int .i64))∧(∀x∈l1++l2,I64 x)∧(∃o n c,v=.slice o n c)∧Below w.heap.size w w':=by
 obtain ⟨o1,n1,k1,rfl⟩:=h1.form
 obtain ⟨o2,n2,k2,rfl⟩:=h2.form
 have HB:=Lib.hid hb
 have H1:=Lib.hid h1
 have H2:=Lib.hid h2
 have HL1:=Lib.hid h1.lens.1
 have HL2:=Lib.hid h2.lens.1
 have hm1':n1≤4000000:=by rw[h1.lens.1];exact hm1
 have hm2':n2≤4000000:=by rw[h2.lens.1];exact hm2
 have hI:∀x∈l1++l2,I64 x:=fun x hx=>(List.mem_append.1 hx).elim (h1.i64 x) (h2.i64 x)
 have HI:=Lib.hid hI
 clear hb h1 h2 hm1 hm2 hI
 go_enter Tryz.func56,Tryz.ntmps56
 go_wp2_with fail
 go_loopg [3,11] 2 (fun g s i wr=>∃(j t:Nat),g=2-j∧j≤2∧i=.int .i64 j∧s=.int .i64 t∧Hid (Below w.heap.size w wr)∧((j=0∧t=0)∨(j=1∧n1=t)∨(j=2∧n1+n2=t)))
 case atStart=>exact ⟨0,0,rfl,by omega,rfl,rfl,Lib.hid (Below.refl _ _),.inl ⟨rfl,rfl⟩⟩
 case round=>
  obtain ⟨j,t,rfl,hj,rfl,rfl,HW,hc⟩:=hrel
  have HX:=Lib.hid (HB.out.keep HW.out)
  have e0:=HX.out.cell 0 rfl
  have e1:=HX.out.cell 1 rfl
  have el:=HX.out.lt
  rcases hc with ⟨rfl,rfl⟩ | ⟨rfl,rfl⟩ | ⟨rfl,rfl⟩
  ·have d0:decide ((n1:Int)<0)=false:=decide_eq_false (by omega)
   go_wp2_with fail
   go_roundg 1
   case measure=>omega
   case rel=>exact ⟨1,n1,rfl,by omega,rfl,by go_num,HW,.inr (.inl ⟨rfl,rfl⟩)⟩
  ·have d0:decide ((n1:Int)+n2<0)=false:=decide_eq_false (by omega)
   go_wp2_with fail
   go_roundg 0
   case measure=>omega
   case rel=>exact ⟨2,n1+n2,rfl,by omega,rfl,by go_num,HW,.inr (.inr ⟨rfl,rfl⟩)⟩
  ·have HG:=Lib.hid (growNil_any (n1+n2) wr (by omega))
   go_wp2_with fail
   refine HG.out.mono ?_
   rintro e w3 ⟨v,rfl,hrow,⟨og,cg,rfl⟩,hb3⟩
   have HR3:=Lib.hid hrow
   have HB3:=Lib.hid (HW.out.trans (hb3.mono HW.out.size))
   have hsz:=HW.out.size
   clear hrow hb3 e0 e1 el
   go_wp2_with fail
   go_loopg [6,27] 2 (fun g s i wr=>∃(j:Nat) (xs:List Int),g=2-j∧j≤2∧i=.int .i64 j∧Hid (Below w.heap.size w wr)∧Hid (wr.ownsRow w.heap.size 3 1 s xs.length (xs.map (Value.int .i64)))∧((j=0∧xs=[])∨(j=1∧xs=l1)∨(j=2∧xs=l1++l2)))
   case atStart=>exact ⟨0,[],rfl,by omega,rfl,HB3,Lib.hid (ownsRow_lower HR3.out hsz),.inl ⟨rfl,rfl⟩⟩
   case round=>
    obtain ⟨j,xs,rfl,hj,rfl,HW2,HR,hc⟩:=hrel
    have HX:=Lib.hid (HB.out.keep HW2.out)
    have e0:=HX.out.cell 0 rfl
    have e1:=HX.out.cell 1 rfl
    have el:=HX.out.lt
    obtain ⟨os,cs,rfl⟩:=own_form HR.out
    rcases hc with ⟨rfl,rfl⟩ | ⟨rfl,hxs⟩ | ⟨rfl,rfl⟩
    ·have HS:=Lib.hid (H1.out.kept (HW2.out.mono hB) fun _ _ _ h=>h)
     have hb2:=HW2.out.size
     go_wp2_with (at_builtin;refine wpList_append_ints rfl (.tmp 31) (.tmp 32) rfl w.heap.size B _ [] l1 rfl HR.out (o1) n1 k1 rfl HS.out (by have:=HL1.out;simp;omega) hb2 ?_)
     intro v' w5 hown hgrow
     have HR5:=Lib.hid hown
     have HB5:=Lib.hid (HW2.out.grown hgrow hb2 (fun g hg=>by exact own_from HR.out g hg))
     obtain ⟨o5,c5,rfl⟩:=own_form hown
     clear hown hgrow e0 e1 el
     go_wp2_with fail
     go_roundg 1
     case measure=>omega
     case rel=>exact ⟨1,_,rfl,by omega,by go_num,HB5,HR5,.inr (.inl ⟨rfl,rfl⟩)⟩
    ·subst hxs
     have HS:=Lib.hid (H2.out.kept (HW2.out.mono hB) fun _ _ _ h=>h)
     have hb2:=HW2.out.size
     go_wp2_with (at_builtin;refine wpList_append_ints rfl (.tmp 31) (.tmp 32) rfl w.heap.size B _ xs l2 rfl HR.out (o2) n2 k2 rfl HS.out (by have:=HL1.out;have:=HL2.out;omega) hb2 ?_)
     intro v' w5 hown hgrow
     have HR5:=Lib.hid hown
     have HB5:=Lib.hid (HW2.out.grown hgrow hb2 (fun g hg=>by exact own_from HR.out g hg))
     obtain ⟨o5,c5,rfl⟩:=own_form hown
     clear hown hgrow e0 e1 el
     go_wp2_with fail
     go_roundg 0
     case measure=>omega
     case rel=>exact ⟨2,xs++l2,rfl,by omega,by go_num,HB5,Lib.hid (by rw[List.length_append,List.map_append];exact HR5.out),.inr (.inr ⟨rfl,rfl⟩)⟩
    ·go_wp2_with fail
     go_ret
     exact ⟨_,rfl,HR.out,HI.out,⟨_,_,_,rfl⟩,HW2.out⟩
end
section
open Go Go.RowKit
namespace Trm
mutual
def pre:Trm→List Trm
 | mk o n v t=>mk o n v t::preL t
def preL:List Trm→List Trm
 | []=>[]
 | x::l=>pre x++preL l
end
theorem preL_app (l m:List Trm):preL (l++m)=preL l++preL m:=by
 induction l with
 | nil=>rfl
 | cons x l ih=>rw[List.cons_append,preL,preL,ih,List.append_assoc]
theorem preL_snoc {l:List Trm} {j:Nat} {x:Trm} (h:l[j]?=some x):preL (l.take (j+1))=preL (l.take j)++pre x:=by
 rw[List.take_add_one,h,preL_app]
 show preL (l.take j)++(pre x++[])=_
 rw[List.append_nil]
theorem pre_len:∀x:Trm,(pre x).length=x.all:=by
 intro x
 induction x using ind with
 | h o n v t ih=>
  have key:∀l:List Trm,(∀y∈l,(pre y).length=y.all)→(preL l).length=allL l:=fun l=>by
   induction l with
   | nil=>intro _;rfl
   | cons y l ihl=>intro hy;rw[preL,allL,List.length_append,hy y (by simp),ihl fun z hz=>hy z (List.mem_cons_of_mem _ hz)]
  rw[pre,List.length_cons,all,key t ih]
  omega
def refs (v:Int) (l:List Trm):Nat:=l.countP fun y=>y.op==1&&y.n==v
theorem refs_named (v:Int):∀x:Trm,Fd.named v x=decide (0<refs v (pre x)):=by
 intro x
 induction x using ind with
 | h o n w t ih=>
  have key:∀l:List Trm,(∀y∈l,Fd.named v y=decide (0<refs v (pre y)))→Fd.namedL v l=decide (0<refs v (preL l)):=fun l=>by
   induction l with
   | nil=>intro _;rfl
   | cons y l ihl=>
    intro hy
    rw[Fd.namedL,preL,refs,List.countP_append,hy y (by simp),ihl fun z hz=>hy z (List.mem_cons_of_mem _ hz)]
    rw[Bool.eq_iff_iff]
    rw[Bool.or_eq_true,decide_eq_true_eq,decide_eq_true_eq,decide_eq_true_eq]
    show 0<refs v (pre y)∨0<refs v (preL l)↔0<refs v (pre y)+refs v (preL l)
    omega
  have e:refs v (mk o n w t::preL t)=refs v (preL t)+if (o==1&&n==v)=true then 1 else 0:=by rw[refs,List.countP_cons];rfl
  rw[Fd.named,pre,key t ih,e]
  cases (o==1&&n==v)
  ·simp
  ·simp
end Trm
end
end Go.Proofs.YtgbibibmpoekiaaGreatDoor
