/-
  What the proofs lean on: Trm, BoxL, Awakes, Cont, Sames.
-/
import Derived.Deep.LoopGhost
import Derived.OwnWalk
import Derived.Test.YtgbibibmpoekiaaGreatDoorShfA06
import Derived.Test.YtgbibibmpoekiaaGreatDoorShfA07
import Derived.Test.YtgbibibmpoekiaaGreatDoorShfA08
import Derived.Test.YtgbibibmpoekiaaGreatDoorShfA09
set_option maxRecDepth 100000
set_option maxHeartbeats 16000000
namespace Go.Proofs.YtgbibibmpoekiaaGreatDoor
section
open Go Go.RowKit
inductive Trm where
 | mk (op n:Int) (v:List Int) (t:List Trm)
namespace Trm
def op:Trm→Int | mk o _ _ _=>o
def n:Trm→Int | mk _ n _ _=>n
def v:Trm→List Int | mk _ _ v _=>v
def t:Trm→List Trm | mk _ _ _ t=>t
theorem ind {P:Trm→Prop} (h:∀o n v t,(∀x∈t,P x)→P (mk o n v t)) (x:Trm):P x:=
 Trm.rec (motive_1:=P) (motive_2:=fun l=>∀x∈l,P x) (fun o n v t ih=>h o n v t ih) (fun _ hx=>by cases hx) (fun x l hx hl y hy=>by
  rcases List.mem_cons.1 hy with rfl | hy
  ·exact hx
  ·exact hl y hy) x
mutual
def all:Trm→Nat
 | mk _ _ _ t=>1+allL t
def allL:List Trm→Nat
 | []=>0
 | x::l=>all x+allL l
end
theorem allL_mem:∀{l:List Trm} {x:Trm},x∈l→x.all≤allL l
 | y::l,x,h=>by
  rw[allL]
  rcases List.mem_cons.1 h with rfl | h
  ·omega
  ·have:=allL_mem h
   omega
end Trm
mutual
def TrmR (w:World) (B:Nat):Trm→List Value→Prop
 | .mk o n v t,cs=>∃vs q len cap,cs=[.int .i64 o,.int .i64 n,vs,.slice q len cap]∧(-9223372036854775808≤o∧o≤9223372036854775807)∧(-9223372036854775808≤n∧n≤9223372036854775807)∧SlC w B 1 IntR v vs ∧
   len=t.length∧len≤cap∧cap≤9223372036854775807∧(match q with | none=>t=[]∧cap=0 | some a=>(t≠[]→a.spot=none∧a.block<B)∧TrmC w B t a.block a.off)
def TrmC (w:World) (B:Nat):List Trm→Nat→Nat→Prop
 | [],_,_=>True
 | x::l,b,off=>(∃cs:List Value,cs.length=4∧(∀j u,cs[j]?=some u→w.cell? ⟨b,off+j,none⟩=some u)∧TrmR w B x cs)∧TrmC w B l b (off+4)
end
theorem trmC_iff {w:World} {B b:Nat}:∀{l:List Trm} {off:Nat},TrmC w B l b off↔∀(i:Nat) (x:Trm),l[i]?=some x→∃cs:List Value,cs.length=4∧(∀j u,cs[j]?=some u→w.cell? ⟨b,off+i*4+j,none⟩=some u)∧TrmR w B x cs
 | [],off=>by simp[TrmC]
 | y::l,off=>by
  rw[TrmC,trmC_iff (l:=l) (off:=off+4)]
  constructor
  ·rintro ⟨h1,h2⟩ i x hx
   cases i with
   | zero=>
    simp only[List.getElem?_cons_zero,Option.some.injEq] at hx
    subst hx
    simpa using h1
   | succ i=>
    have:=h2 i x (by simpa using hx)
    rwa[show off+4+i*4=off+(i+1)*4 by omega] at this
  ·intro h
   refine ⟨by simpa using h 0 y rfl,fun i x hx=>?_⟩
   have:=h (i+1) x (by simpa using hx)
   rwa[show off+(i+1)*4=off+4+i*4 by omega] at this
theorem trmR_iff {w:World} {B:Nat} {o n:Int} {v:List Int} {t:List Trm} {cs:List Value}:TrmR w B (.mk o n v t) cs↔∃vs ts,cs=[.int .i64 o,.int .i64 n,vs,ts]∧(-9223372036854775808≤o∧o≤9223372036854775807)∧(-9223372036854775808≤n∧n≤9223372036854775807)∧SlC w B 1 IntR v vs∧SlC w B 4 (TrmR w B) t ts:=by
 rw[TrmR]
 constructor
 ·rintro ⟨vs,q,len,cap,rfl,h1,h2,h3,h4,h5,h6,h7⟩
  refine ⟨vs,_,rfl,h1,h2,h3,q,len,cap,rfl,h4,h5,h6,?_⟩
  cases q with
  | none=>exact h7
  | some a=>exact ⟨h7.1,trmC_iff.1 h7.2⟩
 ·rintro ⟨vs,ts,rfl,h1,h2,h3,q,len,cap,rfl,h4,h5,h6,h7⟩
  refine ⟨vs,q,len,cap,rfl,h1,h2,h3,h4,h5,h6,?_⟩
  cases q with
  | none=>exact h7
  | some a=>exact ⟨h7.1,trmC_iff.2 h7.2⟩
theorem TrmR.len {w:World} {B:Nat} {x:Trm} {cs:List Value} (h:TrmR w B x cs):cs.length=4:=by
 obtain ⟨o,n,v,t⟩:=x
 obtain ⟨vs,ts,rfl,_⟩:=trmR_iff.1 h
 rfl
theorem TrmR.kept {w w':World} {B:Nat} (hb:Below B w w'):∀(x:Trm) (cs:List Value),TrmR w B x cs→TrmR w' B x cs:=by
 intro x
 induction x using Trm.ind with
 | _ o n v t ih=>
  intro cs h
  obtain ⟨vs,ts,rfl,h1,h2,h3,h4⟩:=trmR_iff.1 h
  exact trmR_iff.2 ⟨vs,ts,rfl,h1,h2,h3.kept hb fun _ _ _ h=>h,h4.kept hb fun x hx cs h=>ih x hx cs h⟩
theorem SlC.terms {w:World} {B B' size:Nat} {l:List Trm} {R R':Trm→List Value→Prop} {v:Value} (h:SlC w B size R l v) (hB:B≤B') (hR:∀x∈l,∀cs,R x cs→R' x cs):SlC w B' size R' l v:=by
 obtain ⟨o,len,cap,rfl,h1,h2,h3,h4⟩:=h
 refine ⟨o,len,cap,rfl,h1,h2,h3,?_⟩
 cases o with
 | none=>exact h4
 | some a=>
  refine ⟨fun hl=>⟨(h4.1 hl).1,Nat.lt_of_lt_of_le (h4.1 hl).2 hB⟩,fun i x hx=>?_⟩
  obtain ⟨cs,g1,g2,g3⟩:=h4.2 i x hx
  exact ⟨cs,g1,g2,hR x (List.mem_of_getElem? hx) cs g3⟩
theorem TrmR.wider {w:World} {B B':Nat} (hB:B≤B'):∀(x:Trm) (cs:List Value),TrmR w B x cs→TrmR w B' x cs:=by
 intro x
 induction x using Trm.ind with
 | _ o n v t ih=>
  intro cs h
  obtain ⟨vs,ts,rfl,h1,h2,h3,h4⟩:=trmR_iff.1 h
  exact trmR_iff.2 ⟨vs,ts,rfl,h1,h2,h3.wider hB,h4.terms hB fun x hx cs h=>ih x hx cs h⟩
def TrmS (w:World) (B:Nat) (l:List Trm) (v:Value):Prop:=SlC w B 4 (TrmR w B) l v
theorem TrmS.kept {w w':World} {B:Nat} {l:List Trm} {v:Value} (h:TrmS w B l v) (hb:Below B w w'):TrmS w' B l v:=SlC.kept h hb fun x _ cs h=>TrmR.kept hb x cs h
end
section
open Go.RowKit
def BoxL (W:World) (b:Nat) (t:TypeId) (cs:List Value):Prop:=W.heap[b]?=some (.cells cs.toArray t (0,0))
theorem BoxL.new {W:World} {b:Nat} (h:b=W.heap.size) (t:TypeId) (cs:List Value):BoxL (W.alloc (.cells cs.toArray t)) b t cs:=by
 subst h;exact World.alloc_heap_new W _
theorem BoxL.lt {W:World} {b:Nat} {t:TypeId} {cs:List Value} (h:BoxL W b t cs):b<W.heap.size:=(Array.getElem?_eq_some_iff.1 h).1
theorem BoxL.keep {W W':World} {b:Nat} {t:TypeId} {cs:List Value} (h:BoxL W b t cs) (hb:Below W.heap.size W W'):BoxL W' b t cs:=(hb.block _ h.lt).trans h
theorem BoxL.alloc {W:World} {b:Nat} {t:TypeId} {cs:List Value} (h:BoxL W b t cs) (o:Obj):BoxL (W.alloc o) b t cs:=h.keep ((Below.refl _ _).alloc (Nat.le_refl _) _)
theorem BoxL.other {W:World} {b:Nat} {t:TypeId} {cs:List Value} (h:BoxL W b t cs) (a:Addr) (v:Value) (hne:b≠a.block):BoxL (W.setCell a v) b t cs:=(setCell_heap_other W a v hne).trans h
theorem BoxL.cell {W:World} {b:Nat} {t:TypeId} {cs:List Value} (h:BoxL W b t cs) (i:Nat) {v:Value} (hv:cs[i]?=some v):W.cell? ⟨b,i,none⟩=some v:=by
 unfold World.cell?
 simp only[show W.heap[b]?=_ from h]
 simpa using hv
theorem BoxL.free {W:World} {b:Nat} {t:TypeId} {cs:List Value} (h:BoxL W b t cs) (i:Nat):W.frozen? ⟨b,i,none⟩=false:=by
 unfold World.frozen?
 simp[show W.heap[b]?=_ from h]
theorem BoxL.set {W:World} {b:Nat} {t:TypeId} {cs:List Value} (h:BoxL W b t cs) (i:Nat) (v:Value):BoxL (W.setCell ⟨b,i,none⟩ v) b t (cs.set i v):=by
 simp only[BoxL,World.setCell,Array.getElem?_modify,↓reduceIte]
 rw[show W.heap[b]?=_ from h]
 simp
theorem keepC {W W':World} (hb:Below W.heap.size W W') {b o:Nat} {v:Value} (h:W.cell? ⟨b,o,none⟩=some v):W'.cell? ⟨b,o,none⟩=some v:=(hb.cell (p:=⟨b,o,none⟩) (cell_lt h)).trans h
theorem Below.one (W:World) (o:Obj):Below W.heap.size W (W.alloc o):=(Below.refl _ _).alloc (Nat.le_refl _) _
theorem SlC.lens {α:Type} {w:World} {B size:Nat} {R:α→List Value→Prop} {l:List α} {o:Option Addr} {len cap:Nat} (h:SlC w B size R l (.slice o len cap)):len=l.length∧len≤cap∧cap≤9223372036854775807:=by
 obtain ⟨o',l',c',he,h1,h2,h3,_⟩:=h
 simp only[Value.slice.injEq] at he
 obtain ⟨_,rfl,rfl⟩:=he
 exact ⟨h1,h2,h3⟩
theorem SlC.form {α:Type} {w:World} {B size:Nat} {R:α→List Value→Prop} {l:List α} {v:Value} (h:SlC w B size R l v):∃o len cap,v=.slice o len cap:=by
 obtain ⟨o,len,cap,h,_⟩:=h
 exact ⟨o,len,cap,h⟩
end
section
open Go
section
variable {P : Program} {ops : Array Oper} {md : Region.Mode}
def backB (md:Region.Mode) (ops:Array Oper):Bool:=(List.range ops.size).all fun i=>((ops[i]?).map (·.after.all fun e=>!Region.binds md e || decide (e.on<i))).getD true
theorem first_ready {n:Nat} {listed:Array Bool} (hb:backB md ops=true) (hs:listed.size=ops.size) (h:∃i,i<n∧i<ops.size∧listed.getD i true=false):Region.ready md ops listed≠[]:=by
 obtain ⟨i,hi⟩:=h
 induction i using Nat.strongRecOn with
 | _ i ih=>
  by_cases hr:i∈Region.ready md ops listed
  ·intro h0;rw[h0] at hr;cases hr
  ·obtain ⟨o,ho⟩:∃o,ops[i]?=some o:=⟨_,Array.getElem?_eq_getElem hi.2.1⟩
   have:∃e∈o.after,Region.binds md e=true∧listed.getD e.on false=false:=by
    apply Classical.byContradiction
    intro hn
    exact hr (mem_ready.2 ⟨hi.2.2,o,ho,fun e he hb'=>by
     cases hl:listed.getD e.on false with
     | true=>rfl
     | false=>exact absurd ⟨e,he,hb',hl⟩ hn⟩)
   obtain ⟨e,he,hbe,hl⟩:=this
   have hlt:e.on<i:=by
    have:=List.all_eq_true.1 hb i (List.mem_range.2 hi.2.1)
    rw[ho] at this
    simp only[Option.map_some,Option.getD_some] at this
    have:=Array.all_eq_true_iff_forall_mem.1 this e he
    simpa[hbe] using this
   exact ih e.on hlt ⟨by omega,by omega,getD_in (by rw[hs];omega) hl⟩
theorem any_inv {n g:Nat} {I:Array Bool→Act→World→Prop} {Q:Exit→Act→World→Prop} (hb:backB md ops=true) (hs:Region.sinkB md ops n=true) (hc:Region.chainB md ops n=true) (hn:n<ops.size)
  (hstep:∀listed a w i,I listed a w→i<n→i∈Region.ready md ops listed→wpOp P ops Q i (fun a' w'=>I (listed.setIfInBounds i true) a' w') a w)
  (hend:∀listed a w,I listed a w→HeadInv md ops n listed→(∀i,i<n→listed.getD i true=true)→wpAny P md ops Q g listed a w) :
  ∀(f:Nat) (listed:Array Bool) (a:Act) (w:World),((List.range n).filter fun i=>!listed.getD i true).length=f→HeadInv md ops n listed→I listed a w→wpAny P md ops Q (f+g) listed a w
 | 0,listed,a,w,hf,inv,h=>by
  rw[Nat.zero_add]
  refine hend listed a w h inv fun i hi=>?_
  have h0:=List.eq_nil_of_length_eq_zero hf
  rw[List.filter_eq_nil_iff] at h0
  have:=h0 i (List.mem_range.2 hi)
  simpa using this
 | f+1,listed,a,w,hf,inv,h=>by
  rw[show f+1+g=(f+g)+1 by omega]
  have hex:∃i,i<n∧i<ops.size∧listed.getD i true=false:=by
   obtain ⟨i,hi⟩:=List.exists_mem_of_length_pos (by rw[hf];omega)
   rw[List.mem_filter,List.mem_range] at hi
   exact ⟨i,hi.1,by omega,by simpa using hi.2⟩
  refine ⟨fun h0=>absurd h0 (first_ready hb inv.size hex),fun i hi=>?_⟩
  have hin:i<n:=by
   rcases Nat.lt_or_ge i n with h' | h'
   ·exact h'
   ·obtain ⟨j,hj,_,hjl⟩:=hex
    exact absurd hi (tail_waits hs hc hn inv _ j rfl hj hjl i h')
  refine wpOp_mono (fun a' w' h'=>any_inv hb hs hc hn hstep hend f _ a' w' ?_ (inv.set hi hin) h') (hstep listed a w i h hin hi)
  have hun:=(mem_ready.1 hi).1
  have hlt:i<listed.size:=by rw[inv.size];omega
  have e:((List.range n).filter fun k=>!listed.getD k true)=((List.range n).filter fun k=>!listed.getD k true):=rfl
  have key:((List.range n).filter fun k=>!(listed.setIfInBounds i true).getD k true)=(((List.range n).filter fun k=>!listed.getD k true)).erase i:=by
   rw[List.Nodup.erase_eq_filter (List.nodup_range.sublist List.filter_sublist),List.filter_filter]
   apply List.filter_congr
   intro k hk
   by_cases hki:k=i
   ·subst hki
    simp[hlt]
   ·rw[getD_set_ne true (Ne.symm hki)]
    simp[hki]
  rw[key,List.length_erase_of_mem (by rw[List.mem_filter,List.mem_range];exact ⟨hin,by simpa using hun⟩),hf]
  rfl
def slotsB (ops:Array Oper) (n m:Nat):Bool:=(List.range n).all fun i=>(List.range n).all fun j=>match ops[i]?,ops[j]? with
 | some oi,some oj=>(match oi.dst,oj.dst with | some d,some e=>decide (d<m)&&(decide (i=j) || decide (d≠e)) | _,_=>true)
 | _,_=>true
def guardsB (md:Region.Mode) (ops:Array Oper) (n m:Nat) (gs:List Nat):Bool:=(List.range n).all fun i=>match ops[i]? with
 | some oi=>(match oi.guard with
  | none=>true
  | some (g,b)=>b&&(gs.contains g&&(decide (g<n)&&((match ops[g]? with | some og=>(match og.dst with | some d=>decide (d<m) | none=>false) | none=>false)&&oi.after.any fun e=>Region.binds md e&&e.on==g))))
 | none=>true
theorem put_getD {a:Act} {d t:Nat} {v:Value} (hd:d<a.tmps.size):(a.put (some d) v).tmps.getD t undef=if d=t then v else a.tmps.getD t undef:=by
 show (a.tmps.setIfInBounds d v).getD t undef=_
 by_cases h:d=t
 ·subst h
  simp[hd]
 ·rw[if_neg h]
  simp[Array.getElem?_setIfInBounds_ne h]
theorem wanted_of {n m:Nat} {gs:List Nat} {R:Nat→Value→World→Prop} {a:Act} {w:World} {i:Nat} {o:Oper} (hgd:guardsB md ops n m gs=true) (hG:∀g∈gs,∀v w,R g v w→v=.bool true) (hi:i<n) (ho:ops[i]?=some o) (hm:m≤a.tmps.size)
  (hdep:∀j oj d,j<n→ops[j]?=some oj→(∃e∈o.after,Region.binds md e=true∧e.on=j)→oj.dst=some d→R j (a.tmps.getD d undef) w):Region.wanted o (yielded ops a.tmps)=true:=by
 have h1:=List.all_eq_true.1 hgd i (List.mem_range.2 hi)
 simp only[ho] at h1
 unfold Region.wanted
 cases hg:o.guard with
 | none=>rfl
 | some p=>
  obtain ⟨g,b⟩:=p
  rw[hg] at h1
  simp only[Bool.and_eq_true,decide_eq_true_eq] at h1
  obtain ⟨rfl,h2,h3,h4,h5⟩:=h1
  cases hog:ops[g]? with
  | none=>rw[hog] at h4;cases h4
  | some og=>
   rw[hog] at h4
   simp only at h4
   cases hd:og.dst with
   | none=>rw[hd] at h4;cases h4
   | some d=>
    rw[hd] at h4
    simp only[decide_eq_true_eq] at h4
    rw[Array.any_eq_true'] at h5
    obtain ⟨e,he,hb⟩:=h5
    simp only[Bool.and_eq_true,beq_iff_eq] at hb
    have hv:=hG g (List.contains_iff_mem.1 h2) _ _ (hdep g og d h3 hog ⟨e,he,hb.1,hb.2⟩ hd)
    have hlt:d<a.tmps.size:=Nat.lt_of_lt_of_le h4 hm
    have hv2:a.tmps[d]?=some (.bool true):=by
     rw[Array.getElem?_eq_getElem hlt]
     simpa[Array.getD,hlt] using hv
    simp[yielded,hog,hd,hv2]
theorem wp_noPanic {o:Oper} {a:Act} {w:World} {K:Act→World→Prop} {Q:Exit→Act→World→Prop} (h:o.wp P a w K (fun _ _ _=>False)):o.wp P a w K Q:=by
  unfold Oper.wp at *
  generalize (execOp a.eval o).run P w=r at *
  cases r with
  | ok n w'=>
    cases n<;>simp only[Oper.upon] at h ⊢ <;>
      first
        | exact h
        | (refine Calls.mono h (fun e w'' he=>?_)
           cases e with
           | returned v=>exact he
           | panicked c=>exact he.elim
           | outgrown=>obtain ⟨_,_,hf⟩:=he;exact hf.elim)
  | halt x w'=>cases x<;>simp only[Oper.upon] at h ⊢<;>exact h.elim
theorem wp_of_list {o:Oper} {a:Act} {w:World} {K:Act→World→Prop} {Q:Exit→Act→World→Prop} (hg:Region.wanted o (yielded ops a.tmps)=true)
    (h:wpList P ops (fun e a' w'=>e=.normal∧K a' w') [o] a w):o.wp P a w K Q:=by
  unfold wpList at h
  rw[if_pos hg] at h
  rcases h with h | ⟨_,_,_,hf,_⟩
  · refine wp_noPanic (Oper.wp_mono (K:=wpList P ops (fun e a' w'=>e=.normal∧K a' w') []) (fun a' w' h'=>(show (Exit.normal=Exit.normal∧K a' w') from h').2) ?_)
    have h2:o.wp P a w (wpList P ops (fun e a' w'=>e=.normal∧K a' w') []) (fun e a' w'=>e=.normal∧K a' w'):=h
    clear h
    unfold Oper.wp at *
    generalize (execOp a.eval o).run P w=r at *
    cases r with
    | ok n w'=>
      cases n<;>simp only[Oper.upon] at h2 ⊢ <;>
        first
          | exact h2
          | (refine Calls.mono h2 (fun e w'' he=>?_)
             cases e with
             | returned v=>exact he
             | panicked c=>cases he.1
             | outgrown=>obtain ⟨_,_,hf,_⟩:=he;cases hf)
          | exact Rows.mono h2 (fun _ _ he=>he)
    | halt x w'=>cases x<;>simp only[Oper.upon] at h2 ⊢<;>first | (cases h2.1) | exact h2
  · cases hf
def headDone (n m:Nat):Array Bool:=(List.replicate n true++List.replicate (m-n) false).toArray
theorem headDone_eq {n:Nat} {listed:Array Bool} (hn:n<ops.size) (inv:HeadInv md ops n listed) (h:∀i,i<n→listed.getD i true=true):listed=headDone n ops.size:=by
 apply Array.ext
 ·rw[inv.size];simp[headDone];omega
 ·intro i h1 h2
  simp only[headDone,List.getElem_toArray]
  by_cases hi:i<n
  ·rw[List.getElem_append_left (by simpa using hi)]
   have:=h i hi
   simpa[h1] using this
  ·rw[List.getElem_append_right (by simpa using (by omega:n≤i))]
   have:=inv.tail i (by omega) (by rw[←inv.size];exact h1)
   simpa[h1] using this
def monoG (ops:Array Oper) (n m:Nat):Bool:=
 backB .any ops&&(Region.sinkB .any ops n&&(Region.chainB .any ops n&&(decide (n<ops.size)&&(slotsB ops n m&&Region.seqB .any ops (ops.size-n) n (headDone n ops.size)))))
def monoB (ops:Array Oper) (n m:Nat):Bool:=monoG ops n m&&guardsB .any ops n m []
def Rest (ops:Array Oper) (n:Nat) (a0 a:Act):Prop:=∀t,(∀i o,i<n→ops[i]?=some o→o.dst≠some t)→a.tmps.getD t undef=a0.tmps.getD t undef
def restB (ops:Array Oper) (n t:Nat):Bool:=(List.range n).all fun i=>match ops[i]? with | some o=>o.dst != some t | none=>true
theorem Rest.at {n:Nat} {a0 a:Act} (h:Rest ops n a0 a) (t:Nat) (hB:restB ops n t=true):a.tmps.getD t undef=a0.tmps.getD t undef:=
 h t fun i o hi ho=>by
  have:=List.all_eq_true.1 hB i (List.mem_range.2 hi)
  simpa[ho] using this
def depB (ops:Array Oper) (n:Nat) (o:Oper) (j d:Nat):Bool:=decide (j<n)&&((match ops[j]? with | some oj=>oj.dst==some d | none=>false)&&o.after.any fun e=>Region.binds .any e&&e.on==j)
theorem dep_at {n:Nat} {o:Oper} {R:Nat→Value→World→Prop} {a:Act} {w1:World} (h:∀j oj d,j<n→ops[j]?=some oj→(∃e∈o.after,Region.binds .any e=true∧e.on=j)→oj.dst=some d→R j (a.tmps.getD d undef) w1) (j d:Nat) (hB:depB ops n o j d=true):R j (a.tmps.getD d undef) w1:=by
 simp only[depB,Bool.and_eq_true,decide_eq_true_eq] at hB
 obtain ⟨h1,h2,h3⟩:=hB
 cases hj:ops[j]? with
 | none=>rw[hj] at h2;cases h2
 | some oj=>
  rw[hj] at h2
  rw[Array.any_eq_true'] at h3
  obtain ⟨e,he,hb⟩:=h3
  simp only[Bool.and_eq_true,beq_iff_eq] at hb
  exact h j oj d h1 hj ⟨e,he,hb.1,hb.2⟩ (by simpa using h2)
end
end
section
open Go.RowKit
theorem rep_leaf {w:World} {B:Nat} (k n d:Int) (s:ByteArray) (hk:-9223372036854775808≤k∧k≤9223372036854775807) (hn:-9223372036854775808≤n∧n≤9223372036854775807) (hd:-9223372036854775808≤d∧d≤9223372036854775807) (hs:s.size≤140737488351232) :
  RepD w B (.mk k n d s []) (.agg #[.int .i64 k,.int .i64 n,.int .i64 d,.string s,.slice none 0 0]):=
 RepD.shut hk hn hd hs ⟨none,0,0,rfl,rfl,by omega,by omega,rfl,rfl⟩
theorem env_kept {w w':World} (h:Env w) (hb:Below w.heap.size w w'):Env w':=((EnvAt.of h).kept hb).1
end
section
open Go.RowKit
theorem anyG_take_succ {α:Type} {p:α→Bool} {l:List α} {j:Nat} {x:α} (hx:l[j]?=some x) (h:(l.take j).any p=false) (hp:p x=false):(l.take (j+1)).any p=false:=by
 rw[List.take_add_one,hx]
 simp[h,hp]
theorem anyG_true {α:Type} {p:α→Bool} {l:List α} {j:Nat} {x:α} (hx:l[j]?=some x) (hp:p x=true):l.any p=true:=
 List.any_eq_true.2 ⟨x,List.mem_of_getElem? hx,hp⟩
theorem indexG_int {α:Type} (R:α→List Value→Prop) (F:FuncId) (caps:Array Value) (p:α→Bool) (l:List α) (sl:Value) (B:Nat) (w:World) (hv:SlC w B 1 R l sl) (hB:B≤w.heap.size)
  (hF:∀(args:Array Value) (w:World),(callFunc F args).run Tryz.prog w=.ok (.enter F args) w)
  (H:∀x∈l,∀c0 w',R x [c0]→Below w.heap.size w w'→Calls Tryz.prog F (#[c0]++caps) w' fun e w''=>e=.returned (.bool (p x))∧Below w'.heap.size w' w'') :
  Calls Tryz.prog 76 #[sl,.func (.func F) #[] caps] w (IdxPost (l.any p) w):=by
 obtain ⟨r,hr⟩:∃r,l.any p=r:=⟨_,rfl⟩
 rw[hr]
 obtain ⟨o,len,cap,rfl,hl,hcap,hmax⟩:=hv.slice
 have HR:=Lib.hid hr
 have HV:=Lib.hid hv
 have HL:=Lib.hid hl
 have HH:=Lib.hid H
 clear hr hv hl H
 go_enter Tryz.func76,Tryz.ntmps76
 go_wp2
 go_loopw [8] (fun i wr=>∃(j:Nat),i=.int .i64 j∧j≤len∧Hid ((l.take j).any p=false)∧Below w.heap.size w wr) (fun i _=>len-(intOf i).toNat)
 case atStart=>exact ⟨0,rfl,by omega,rfl,Below.refl _ _⟩
 case round=>
  obtain ⟨j,rfl,hj,HA,hb⟩:=hrel
  by_cases hjl:j<len
  ·obtain ⟨x,hx⟩:∃x,l[j]?=some x:=⟨_,List.getElem?_eq_getElem (by rw[←HL.out];exact hjl)⟩
   obtain ⟨b,off,cs,ho,_,hcl,hcell,hr⟩:=HV.out.at (hb.mono hB) hx
   subst ho
   match cs,hcl with
   | [c0],_=>
    have e0:=hcell 0 _ rfl
    simp only[Nat.add_zero,Nat.mul_one] at e0
    have HC:=Lib.hid (HH.out _ (List.mem_of_getElem? hx) _ wr hr hb)
    have HX:=Lib.hid hx
    clear hx hr hcell
    cases hp:p x with
    | true=>
     rw[hp] at HC
     have HT:=Lib.hid (anyG_true HX.out hp)
     clear hp
     go_wp2_with (first | ((with_reducible refine HC.out.mono ?_);rintro e' w1 ⟨rfl,hb1⟩))
     go_ret
     exact ⟨j,rfl,by rw[←HR.out,HT.out];simp,Below.next hb hb1⟩
    | false=>
     rw[hp] at HC
     have HT:=Lib.hid (anyG_take_succ HX.out HA.out hp)
     clear hp
     go_wp2_with (first | ((with_reducible refine HC.out.mono ?_);rintro e' w1 ⟨rfl,hb1⟩))
     go_roundw
     case rel=>exact ⟨j+1,by go_num,by omega,HT,Below.next hb hb1⟩
     case measure=>simp[intOf];omega
  ·have HF:=Lib.hid (show l.any p=false by rw[←HA.out,List.take_of_length_le (by rw[←HL.out];omega)])
   go_wp2
   go_ret
   exact ⟨-1,rfl,by rw[←HR.out,HF.out];rfl,hb⟩
theorem containsG_int {α:Type} (R:α→List Value→Prop) (F:FuncId) (caps:Array Value) (p:α→Bool) (r:Bool) (l:List α) (sl:Value) (B:Nat) (w:World) (hv:SlC w B 1 R l sl) (hB:B≤w.heap.size)
  (hF:∀(args:Array Value) (w:World),(callFunc F args).run Tryz.prog w=.ok (.enter F args) w)
  (H:∀x∈l,∀c0 w',R x [c0]→Below w.heap.size w w'→Calls Tryz.prog F (#[c0]++caps) w' fun e w''=>e=.returned (.bool (p x))∧Below w'.heap.size w' w'') (hr:l.any p=r) :
  Calls Tryz.prog 41 #[sl,.func (.func F) #[] caps] w fun e w'=>e=.returned (.bool r)∧Below w.heap.size w w':=by
 have HI:=Lib.hid (indexG_int R F caps p l sl B w hv hB hF H)
 rw[hr] at HI
 obtain ⟨o,len,cap,rfl,h1,h2,h3⟩:=hv.slice
 clear hr hv H hF h1 h2 h3
 go_enter Tryz.func41,Tryz.ntmps41
 go_wp2_with (first | (go_at_call 76;refine HI.out.mono ?_;rintro e' w1 ⟨q,rfl,hq,hb⟩))
 subst hq
 go_ret
 exact ⟨by simp,hb⟩
end
section
open Go.RowKit
def all2 (q:Dat→Dat→Bool):List Dat→List Dat→Bool
 | [],[]=>true
 | x::l,y::m=>q x y&&all2 q l m
 | _,_=>false
theorem all2_len {q:Dat→Dat→Bool}:∀{l m:List Dat},all2 q l m=true→l.length=m.length
 | [],[],_=>rfl
 | x::l,y::m,h=>by
  rw[all2,Bool.and_eq_true] at h
  simp[all2_len h.2]
 | [],_::_,h=>by cases h
 | _::_,[],h=>by cases h
theorem all2_false {q:Dat→Dat→Bool}:∀{l m:List Dat} {i:Nat} {x y:Dat},l[i]?=some x→m[i]?=some y→q x y=false→all2 q l m=false
 | [],_,i,x,y,h,_,_=>by simp at h
 | _::_,[],i,x,y,_,h,_=>by simp at h
 | a::l,b::m,0,x,y,h,h',hq=>by
  simp only[List.getElem?_cons_zero,Option.some.injEq] at h h'
  subst h h'
  simp[all2,hq]
 | a::l,b::m,i+1,x,y,h,h',hq=>by
  rw[all2,all2_false (l:=l) (m:=m) (i:=i) (by simpa using h) (by simpa using h') hq,Bool.and_false]
theorem all2_all {q:Dat→Dat→Bool}:∀{l m:List Dat},l.length=m.length→(∀(i:Nat) (x y:Dat),l[i]?=some x→m[i]?=some y→q x y=true)→all2 q l m=true
 | [],[],_,_=>rfl
 | x::l,y::m,h,H=>by
  rw[all2,H 0 x y rfl rfl,all2_all (by simpa using h) (fun i a b ha hb=>H (i+1) a b (by simpa using ha) (by simpa using hb))];rfl
 | [],_::_,h,_=>by simp at h
 | _::_,[],h,_=>by simp at h
theorem alikeL_all2:∀l m:List Dat,Dat.alikeL l m=all2 Dat.alike l m
 | [],[]=>rfl
 | x::l,y::m=>by rw[Dat.alikeL,all2,alikeL_all2 l m]
 | [],_::_=>rfl
 | _::_,[]=>rfl
theorem equalFunc_any (F:FuncId) (caps:Array Value) (q:Dat→Dat→Bool) (r:Bool) (l m:List Dat) (sl sm:Value) (B:Nat) (w:World) (hl:RepS w B l sl) (hm:RepS w B m sm) (hB:B≤w.heap.size)
  (hF:∀(args:Array Value) (w:World),(callFunc F args).run Tryz.prog w=.ok (.enter F args) w)
  (H:∀x∈l,∀y∈m,∀v u w',RepD w' B x v→RepD w' B y u→Below w.heap.size w w'→Calls Tryz.prog F (#[v,u]++caps) w' fun e w''=>e=.returned (.bool (q x y))∧Below w'.heap.size w' w'') (hr:all2 q l m=r) :
  Calls Tryz.prog 145 #[sl,sm,.func (.func F) #[] caps] w fun e w'=>e=.returned (.bool r)∧Below w.heap.size w w':=by
 obtain ⟨o,len,cap,rfl,hl1,hcap,hmax,hv⟩:=hl
 obtain ⟨o2,len2,cap2,rfl,hm1,hcap2,hmax2,hv2⟩:=hm
 have HR:=Lib.hid hr
 have HV:=Lib.hid hv
 have HV2:=Lib.hid hv2
 have HL:=Lib.hid hl1
 have HM:=Lib.hid hm1
 have HH:=Lib.hid H
 clear hr hv hv2 hl1 hm1 H
 by_cases hne:len=len2
 ·subst hne
  have hnn:((len:Int) != (len:Int))=false:=by simp
  go_enter Tryz.func145,Tryz.ntmps145
  go_wp2
  go_loopw [17] (fun i wr=>∃(j:Nat),i=.int .i64 j∧j≤len∧Hid (∀(i:Nat) (x y:Dat),i<j→l[i]?=some x→m[i]?=some y→q x y=true)∧Below w.heap.size w wr) (fun i _=>len-(intOf i).toNat)
  case atStart=>exact ⟨0,rfl,by omega,Lib.hid (fun i x y h=>absurd h (Nat.not_lt_zero _)),Below.refl _ _⟩
  case round=>
   obtain ⟨j,rfl,hj,HA,hb⟩:=hrel
   by_cases hjl:j<len
   ·obtain ⟨x,hx⟩:∃x,l[j]?=some x:=⟨_,List.getElem?_eq_getElem (by rw[←HL.out];exact hjl)⟩
    obtain ⟨y,hy⟩:∃y,m[j]?=some y:=⟨_,List.getElem?_eq_getElem (by rw[←HM.out];exact hjl)⟩
    obtain ⟨b,off,k',n',d',s',l',o',len',cap',ho,hxe,e0,e1,e2,e3,e4,er⟩:=part_at2 HV.out (hb.mono hB) hx
    obtain ⟨b2,off2,k2,n2,d2,s2,l2,o2',len2,cap2',ho2,hye,f0,f1,f2,f3,f4,fr⟩:=part_at2 HV2.out (hb.mono hB) hy
    subst ho hxe ho2 hye
    have HX:=Lib.hid hx
    have HY:=Lib.hid hy
    have ER:=Lib.hid er
    have FR:=Lib.hid fr
    clear hx hy er fr
    have hs:=hb.size
    have hw1:b<wr.heap.size:=cell_lt e0
    have hw2:b2<wr.heap.size:=cell_lt f0
    have hw1':b<wr.heap.size+1:=by omega
    have hw2':b2<wr.heap.size+1:=by omega
    have HK:=Lib.hid (fun X Y=>((Below.refl wr.heap.size wr).alloc (Nat.le_refl _) X).alloc (by simp) Y)
    have HC:=Lib.hid (fun X Y=>HH.out _ (List.mem_of_getElem? HX.out) _ (List.mem_of_getElem? HY.out) _ _ ((wr.alloc X).alloc Y) (ER.out.kept ((HK.out X Y).mono (by omega))) (FR.out.kept ((HK.out X Y).mono (by omega))) (Below.next hb (HK.out X Y)))
    cases hq:q (.mk k' n' d' s' l') (.mk k2 n2 d2 s2 l2) with
    | true=>
     rw[hq] at HC
     have HT:=Lib.hid hq
     clear hq
     go_wp2_with (first | ((with_reducible refine (HC.out _ _).mono ?_);rintro e' w1 ⟨rfl,hb1⟩))
     go_roundw
     case rel=>
      refine ⟨j+1,by go_num,by omega,Lib.hid ?_,(Below.next hb (HK.out _ _)).trans (hb1.mono (by simp;omega))⟩
      intro i x y hi hx hy
      by_cases hij:i<j
      ·exact HA.out i x y hij hx hy
      ·obtain rfl:i=j:=by omega
       have h1:=HX.out.symm.trans hx
       have h2:=HY.out.symm.trans hy
       simp only[Option.some.injEq] at h1 h2
       rw[←h1,←h2];exact HT.out
     case measure=>simp[intOf];omega
    | false=>
     rw[hq] at HC
     have HT:=Lib.hid (all2_false HX.out HY.out hq)
     clear hq
     go_wp2_with (first | ((with_reducible refine (HC.out _ _).mono ?_);rintro e' w1 ⟨rfl,hb1⟩))
     go_ret
     exact ⟨ret_bool (by rw[←HR.out,HT.out]),(Below.next hb (HK.out _ _)).trans (hb1.mono (by simp;omega))⟩
   ·have HT:=Lib.hid (all2_all (q:=q) (l:=l) (m:=m) (by rw[←HL.out,←HM.out]) (fun i x y hx hy=>HA.out i x y (by
     have:=(List.getElem?_eq_some_iff.1 hx).1;rw[←HL.out] at this;omega) hx hy))
    go_wp2
    go_ret
    exact ⟨ret_bool (by rw[←HR.out,HT.out]),hb⟩
 ·have hnn:((len:Int) != (len2:Int))=true:=by simp;omega
  have HT:=Lib.hid (show all2 q l m=false by
   cases h:all2 q l m with
   | false=>rfl
   | true=>exact absurd (all2_len h) (by rw[←HL.out,←HM.out];exact hne))
  go_enter Tryz.func145,Tryz.ntmps145
  go_wp2
  go_ret
  exact ⟨ret_bool (by rw[←HR.out,HT.out]),Below.self _⟩
theorem equal_no {k n d k' n' d':Int} {s s':ByteArray} {q r:Bool} (h:((decide (k=k')&&(decide (n=n')&&(decide (d=d')&&decide (s=s'))))&&q)=r)
  (hno:¬k=k'∨¬n=n'∨¬d=d'∨¬s.toList=s'.toList):false=r:=by
 rw[←h]
 by_cases h1:k=k'∧n=n'∧d=d'∧s=s'
 ·obtain ⟨rfl,rfl,rfl,rfl⟩:=h1
  rcases hno with h | h | h | h<;>exact absurd rfl h
 ·symm
  rw[Bool.and_eq_false_iff]
  apply Decidable.byContradiction
  intro h2
  apply h1
  simp only[not_or,Bool.not_eq_false,Bool.and_eq_true,decide_eq_true_eq] at h2
  exact h2.1
theorem equal_yes {k n d k' n' d':Int} {s s':ByteArray} {q r:Bool} (h:((decide (k=k')&&(decide (n=n')&&(decide (d=d')&&decide (s=s'))))&&q)=r)
  (h0:k=k') (h1:n=n') (h2:d=d') (h3:s.toList=s'.toList):q=r:=by
 have e:s=s':=by
  apply ByteArray.ext;apply Array.ext'
  rw[←ByteArray.toList_eq,←ByteArray.toList_eq];exact h3
 rw[←h,decide_eq_true h0,decide_eq_true h1,decide_eq_true h2,decide_eq_true e];rfl
theorem equal_any:∀(x y:Dat) (v u:Value) (B:Nat) (w:World),RepD w B x v→RepD w B y u→B≤w.heap.size →
  Calls Tryz.prog 142 #[v,u] w fun e w'=>e=.returned (.bool (Dat.alike x y))∧Below w.heap.size w w':=by
 intro x
 induction x using Dat.ind with
 | h k n d s l ih=>
  intro y v u B w hv hu hB
  obtain ⟨k',n',d',s',l'⟩:=y
  obtain ⟨r,hr⟩:∃r,Dat.alike (.mk k n d s l) (.mk k' n' d' s' l')=r:=⟨_,rfl⟩
  rw[hr]
  rw[Dat.alike,alikeL_all2] at hr
  have HR:=Lib.hid hr
  obtain ⟨sl,rfl,_,_,_,_,hs⟩:=hv.open
  obtain ⟨sm,rfl,_,_,_,_,hs'⟩:=hu.open
  have HS:=Lib.hid hs
  have HS':=Lib.hid hs'
  have IH:=Lib.hid ih
  clear ih hv hu hr hs hs'
  have HK:=Lib.hid (fun X Y=>((Below.refl w.heap.size w).alloc (Nat.le_refl _) X).alloc (by simp) Y)
  go_enter Tryz.func142,Tryz.ntmps142
  go_wp2_with fail
  ·refine (equalFunc_any 142 #[] Dat.alike r l l' sl sm B _ (HS.out.kept ((HK.out _ _).mono hB)) (HS'.out.kept ((HK.out _ _).mono hB)) (by simp;omega) (fun _ _=>by kernel_rfl)
    (fun x hx y _ v u w' hxv hyu hb=>IH.out x hx y v u B w' hxv hyu (by have:=hb.size;simp at this;omega)) (equal_yes HR.out (by assumption) (by assumption) (by assumption) (by assumption))).mono ?_
   rintro e' w1 ⟨rfl,hb1⟩
   go_wp2
   go_ret
   exact ⟨rfl,(HK.out _ _).trans (hb1.mono (by simp;omega))⟩
  all_goals
   go_ret
   refine ⟨ret_bool (equal_no HR.out ?_),HK.out _ _⟩
   first
   | exact .inr (.inr (.inr ‹_›))
   | exact .inr (.inr (.inl ‹_›))
   | exact .inr (.inl ‹_›)
   | exact .inl ‹_›
theorem same_any (x y:Dat) (v u:Value) (B:Nat) (w:World) (hv:RepD w B x v) (hu:RepD w B y u) (hB:B≤w.heap.size) :
  Calls Tryz.prog 116 #[v,u] w fun e w'=>e=.returned (.bool (Dat.right x 0&&(Dat.right y 0&&Dat.alike x y)))∧Below w.heap.size w w':=by
 obtain ⟨r,hr⟩:∃r,(Dat.right x 0&&(Dat.right y 0&&Dat.alike x y))=r:=⟨_,rfl⟩
 rw[hr]
 have HR:=Lib.hid hr
 obtain ⟨k,n,d,s,o,len,cap,rfl⟩:=agg_of hv
 obtain ⟨k',n',d',s',o',len',cap',rfl⟩:=agg_of hu
 have HV:=Lib.hid hv
 have HU:=Lib.hid hu
 clear hv hu hr
 have HK:=Lib.hid (fun X Y=>((Below.refl w.heap.size w).alloc (Nat.le_refl _) X).alloc (by simp) Y)
 have C1:=Lib.hid (fun W (hb:Below w.heap.size w W)=>dright_any x _ B W (HV.out.kept (hb.mono hB)) (Nat.le_trans hB hb.size))
 have C2:=Lib.hid (fun W (hb:Below w.heap.size w W)=>dright_any y _ B W (HU.out.kept (hb.mono hB)) (Nat.le_trans hB hb.size))
 have C3:=Lib.hid (fun W (hb:Below w.heap.size w W)=>equal_any x y _ _ B W (HV.out.kept (hb.mono hB)) (HU.out.kept (hb.mono hB)) (Nat.le_trans hB hb.size))
 go_enter Tryz.func116,Tryz.ntmps116
 go_wp2_with fail
 refine (C1.out _ (HK.out _ _)).mono ?_
 cases hx:Dat.right x 0 with
 | false=>
  have H1:=Lib.hid (show r=false by rw[←HR.out,hx];rfl)
  clear hx
  rintro e' w1 ⟨rfl,hb⟩
  go_wp2
  go_ret
  exact ⟨ret_bool H1.out.symm,two_below hb⟩
 | true=>
  have H1:=Lib.hid (show r=(Dat.right y 0&&Dat.alike x y) by rw[←HR.out,hx];rfl)
  clear hx
  rintro e' w1 ⟨rfl,hb⟩
  have hz:=two_size hb
  have z0:w.heap.size<w1.heap.size:=(by omega)
  have z1:w.heap.size+1<w1.heap.size:=(by omega)
  obtain ⟨q0,q1,q2,q3,q4⟩:=two_five hb
  obtain ⟨p0,p1,p2,p3,p4⟩:=two_five2 hb
  have HB:=Lib.hid (two_below hb)
  clear hb
  go_wp2_with fail
  refine (C2.out _ HB.out).mono ?_
  cases hx:Dat.right y 0 with
  | false=>
   have H2:=Lib.hid (show r=false by rw[H1.out,hx];rfl)
   clear hx
   rintro e' w2 ⟨rfl,hb2⟩
   go_wp2
   go_ret
   exact ⟨ret_bool H2.out.symm,Below.next HB.out hb2⟩
  | true=>
   have H2:=Lib.hid (show r=Dat.alike x y by rw[H1.out,hx];rfl)
   clear hx
   rintro e' w2 ⟨rfl,hb2⟩
   have g:∀b i,b<w1.heap.size→w2.cell? ⟨b,i,none⟩=w1.cell? ⟨b,i,none⟩:=fun b i h=>hb2.cell (p:=⟨b,i,none⟩) h
   have q0':=(g _ 0 z0).trans q0
   have q1':=(g _ 1 z0).trans q1
   have q2':=(g _ 2 z0).trans q2
   have q3':=(g _ 3 z0).trans q3
   have q4':=(g _ 4 z0).trans q4
   have p0':=(g _ 0 z1).trans p0
   have p1':=(g _ 1 z1).trans p1
   have p2':=(g _ 2 z1).trans p2
   have p3':=(g _ 3 z1).trans p3
   have p4':=(g _ 4 z1).trans p4
   have HB2:=Lib.hid (Below.next HB.out hb2)
   clear hb2 g
   go_wp2_with fail
   refine (C3.out _ HB2.out).mono ?_
   rintro e' w3 ⟨rfl,hb3⟩
   go_wp2
   go_ret
   exact ⟨ret_bool H2.out.symm,Below.next HB2.out hb3⟩
end
section
open Go.RowKit
def ItemsPost (r:Option (List Dat)) (w:World) (e:Ending) (w':World):Prop:=
 ∃v l,e=.returned (.tuple #[v,.bool r.isSome])∧l=r.getD []∧RepS w' w'.heap.size l v∧Below w.heap.size w w'
theorem set5_grown (W:World) (H:Nat) (d0 d1 d2 d3 d4:Value):W.grownBy (set5 W H d0 d1 d2 d3 d4) (some H):=
 ⟨(set5_below W H H d0 d1 d2 d3 d4 (Nat.le_refl _)).os,(set5_below W H H d0 d1 d2 d3 d4 (Nat.le_refl _)).tape,(set5_below W H H d0 d1 d2 d3 d4 (Nat.le_refl _)).output,(set5_below W H H d0 d1 d2 d3 d4 (Nat.le_refl _)).size,fun k _ hk=>set5_heap _ _ _ _ _ _ _ (by simpa using hk)⟩
theorem right_pair_at {n d:Int} {s:ByteArray} {l:List Dat} {deep:Nat} (h:Dat.right (.mk 6 n d s l) deep=true):deep≤200∧∃a c,l=[a,c]∧n=0∧d=0∧s=⟨#[]⟩∧Dat.right a (deep+1)=true∧Dat.right c (deep+1)=true:=by
 simp[Dat.right,Dat.head] at h
 obtain ⟨hdp,⟨hd,hn,hs,hl⟩,hr⟩:=h
 refine ⟨hdp,?_⟩
 match l,hl with
 | [a,c],_=>
  rw[Dat.rightL_iff] at hr
  exact ⟨a,c,rfl,hn,hd,ByteArray.ext hs,hr a (by simp),hr c (by simp)⟩
theorem items_pair (n d:Int) (s:ByteArray) (a c:Dat):Dat.items (.mk 6 n d s [a,c])=(Dat.items c).map (a :: ·):=by rw[Dat.items,if_pos rfl]
theorem items_other (k n d:Int) (s:ByteArray) (l:List Dat) (h:¬k=6) (h2:k=4→l=[]):Dat.items (.mk k n d s l)=if k=4 then some [] else none:=by
 by_cases h4:k=4
 ·rw[h2 h4,Dat.items];intro a b he;cases he
 ·match l with
  | [a,b]=>rw[Dat.items,if_neg h,if_neg h4]
  | []=>rw[Dat.items];intro a b he;cases he
  | [a]=>rw[Dat.items];intro a b he;cases he
  | _::_::_::_=>rw[Dat.items];intro a b he;cases he
theorem right_null {n d:Int} {s:ByteArray} {l:List Dat} {deep:Nat} (h:Dat.right (.mk 4 n d s l) deep=true):l=[]:=by
 simp[Dat.right,Dat.head] at h
 exact h.2.1.2.2.2
def ItemsI (H:Nat) (w:World) (x:Dat) (g:Nat) (t:Value) (wr:World):Prop:=
 ∃(k n d:Int) (s:ByteArray) (l:List Dat) (o:Option Addr) (len cap:Nat) (done:List Dat) (xs:List Value),Box5 wr H 45 (.int .i64 k) (.int .i64 n) (.int .i64 d) (.string s) (.slice o len cap)∧RepD wr w.heap.size (.mk k n d s l) (.agg #[.int .i64 k,.int .i64 n,.int .i64 d,.string s,.slice o len cap]) ∧
  Dat.right (.mk k n d s l) done.length=true∧Dat.all (.mk k n d s l)≤g∧wr.ownsRow (H+1) 45 5 t done.length xs∧CellsD wr w.heap.size done xs∧Dat.items x=(Dat.items (.mk k n d s l)).map (done ++ ·)∧Below w.heap.size w wr
theorem items_any (x:Dat) (v:Value) (B:Nat) (w:World) (hv:RepD w B x v) (hB:B≤w.heap.size) :
  Calls Tryz.prog 122 #[v] w (ItemsPost (if Dat.right x 0 then Dat.items x else none) w):=by
 obtain ⟨k,n,d,s,o,len,cap,rfl⟩:=agg_of hv
 have HV:=Lib.hid (hv.wider hB)
 have HK:=Lib.hid (fun X=>(Below.refl w.heap.size w).alloc (Nat.le_refl _) X)
 have C1:=Lib.hid (fun W (hb:Below w.heap.size w W)=>dright_any x _ w.heap.size W (HV.out.kept hb) hb.size)
 clear hv
 cases hr:Dat.right x 0 with
 | false=>
  rw[hr] at C1
  simp only[Bool.false_eq_true,if_false]
  clear hr
  go_enter Tryz.func122,Tryz.ntmps122
  go_wp2_with fail
  refine (C1.out _ (HK.out _)).mono ?_
  rintro e' w1 ⟨rfl,hb1⟩
  go_wp2
  go_ret2
  exact ⟨_,[],rfl,rfl,⟨none,0,0,rfl,rfl,by omega,by omega,rfl,rfl⟩,one_below hb1⟩
 | true=>
  rw[hr] at C1
  have HR:=Lib.hid hr
  simp only[if_true]
  clear hr
  go_enter Tryz.func122,Tryz.ntmps122
  go_wp2_with fail
  refine (C1.out _ (HK.out _)).mono ?_
  rintro e' w1 ⟨rfl,hb1⟩
  have hz:=one_size hb1
  have z0:w.heap.size<w1.heap.size:=by omega
  have hbox:Box5 w1 w.heap.size 45 (.int .i64 k) (.int .i64 n) (.int .i64 d) (.string s) (.slice o len cap):=(hb1.block _ (by simp)).trans (Box5.new w _ _ _ _ _ _)
  have hI:ItemsI w.heap.size w x (Dat.all x) (.slice none 0 0) w1:=by
   obtain ⟨k',n',d',s',l'⟩:=x
   obtain ⟨sl,hv,_⟩:=HV.out.open
   simp only[Value.agg.injEq,Array.mk.injEq,List.cons.injEq,and_true,Value.int.injEq,true_and,Value.string.injEq] at hv
   obtain ⟨rfl,rfl,rfl,rfl,_⟩:=hv
   exact ⟨k,n,d,s,l',o,len,cap,[],[],hbox,HV.out.kept (one_below hb1),HR.out,Nat.le_refl _,World.ownsRow_nil _ _ _ _,rfl,by simp,one_below hb1⟩
  have HI:=Lib.hid hI
  clear hb1 hbox hI
  go_wp2_with fail
  go_loopg [4] (Dat.all x) (fun g t wr=>ItemsI w.heap.size w x g t wr)
  case atStart=>exact HI.out
  case round=>
   obtain ⟨k1,n1,d1,s1,l1,o1,len1,cap1,done,xs,hbox,hrep,hri,hle,hown,hcs,hit,hb⟩:=hrel
   obtain ⟨q0,q1,q2,q3,q4⟩:=hbox.cells
   obtain ⟨z0,z1,z2,z3,z4⟩:=hbox.free
   have hlt1:=hbox.lt
   have hsz:=hb.size
   have HX:=Lib.hid hbox
   have HRP:=Lib.hid hrep
   have HRI:=Lib.hid hri
   have HO:=Lib.hid hown
   have HC:=Lib.hid hcs
   have HT:=Lib.hid hit
   have HB:=Lib.hid hb
   clear hbox hrep hri hown hcs hit hb
   by_cases k6:k1=6
   ·subst k6
    obtain ⟨hdp,a',c',rfl,rfl,rfl,rfl,ha',hc'⟩:=right_pair_at HRI.out
    have HC':=Lib.hid hc'
    clear ha' hc'
    have hall:Dat.all (.mk 6 0 0 ⟨#[]⟩ [a',c'])=1+(Dat.all a'+(Dat.all c'+0)):=rfl
    obtain ⟨sl,hv,_,_,_,_,hs⟩:=HRP.out.open
    simp only[Value.agg.injEq,Array.mk.injEq,List.cons.injEq,and_true,true_and] at hv
    obtain rfl:=hv
    have hl2:len1=2:=by obtain ⟨_,_,_,he,h2,_⟩:=hs;simp only[Value.slice.injEq] at he;rw[he.2.1,h2];rfl
    subst hl2
    have hcp:2≤cap1∧cap1≤9223372036854775807:=by obtain ⟨_,_,_,he,h2,h3,h4,_⟩:=hs;simp only[Value.slice.injEq] at he;omega
    have HS:=Lib.hid hs
    obtain ⟨bb,off,ak',an',ad',ast',al',ao',alen',acap',ho,hae',e0,e1,e2,e3,e4,er⟩:=part_0 hs (Below.refl _ wr)
    subst ho
    obtain ⟨bb',off',ck,cn,cd,cs,cl,co,clen,ccap,hoo,hce,f0,f1,f2,f3,f4,fr⟩:=part_1 hs (Below.refl _ wr)
    simp only[Option.some.injEq,Addr.mk.injEq,and_true] at hoo
    obtain ⟨rfl,rfl⟩:=hoo
    have ER:=Lib.hid er
    have HAE:=Lib.hid hae'
    have FR:=Lib.hid fr
    have HCE:=Lib.hid hce
    clear hs er hae' fr hce
    obtain ⟨i0,hi,hz0,hz1,hz2⟩:=info_parts info_datum
    go_wp2_with (at_builtin;refine wpList_append_own _ rfl _ _ 22 rfl (w.heap.size+1) 45 i0 (.agg #[.int .i64 0,.int .i64 0,.int .i64 0,.string ⟨#[]⟩,.slice none 0 0]) 5 64 Tryz.underlying22 hi hz0 hz1 hz2 rfl (by decide) u4 done.length xs rfl (HO.out.alloc _) ⟨wr.heap.size,0,none⟩ 1 1 [.int .i64 ak',.int .i64 an',.int .i64 ad',.string ast',.slice ao' alen' acap'] rfl rfl ?c1 ?c2 ?c3 ?c4 ?c5 ?_)
    case c1=>exact new_five _ _ _ _ _ _ _
    case c2=>intro u hu;simp only[List.mem_cons,List.not_mem_nil,or_false] at hu;rcases hu with rfl | rfl | rfl | rfl | rfl<;>rfl
    case c3=>unfold maxLen;omega
    case c4=>omega
    case c5=>simp;omega
    intro v' w2 hown' hgrow _
    have hrow:∀g,u4.ownBlock=some g→w.heap.size+1≤g:=fun g hg=>(HO.out.lt g hg).1
    have hb2:Below w.heap.size wr w2:=((Below.refl w.heap.size wr).alloc hsz _).grown hgrow (by simp;omega) (fun g hg=>by have:=hrow g hg;omega)
    have hbox2:Box5 w2 w.heap.size 45 (.int .i64 6) (.int .i64 0) (.int .i64 0) (.string ⟨#[]⟩) (.slice (some ⟨bb,off,none⟩) 2 cap1):=
     (hgrow.block _ (by simp;omega) (fun e=>by have:=hrow _ e.symm;omega)).trans (HX.out.alloc _)
    obtain ⟨r0,r1,r2,r3,r4⟩:=hbox2.cells
    obtain ⟨y0,y1,y2,y3,y4⟩:=hbox2.free
    have hg:∀o,w2.cell? ⟨bb,o,none⟩=wr.cell? ⟨bb,o,none⟩:=fun o=>hb2.cell (p:=⟨bb,o,none⟩) (by
     obtain ⟨_,_,_,he,_,_,_,h8⟩:=HS.out
     simp only[Value.slice.injEq] at he
     rw[←he.1] at h8
     exact (h8.1 (by simp)).2)
    have g0:=(hg _).trans f0
    have g1:=(hg _).trans f1
    have g2:=(hg _).trans f2
    have g3:=(hg _).trans f3
    have g4:=(hg _).trans f4
    have HX2:=Lib.hid hbox2
    have HB2:=Lib.hid hb2
    have HO2:=Lib.hid hown'
    have hs2:=hb2.size
    clear hgrow hrow hb2 hbox2 hg e0 e1 e2 e3 e4 f0 f1 f2 f3 f4 hown' q0 q1 q2 q3 q4
    go_wp2_with fail
    go_roundg (Dat.all c')
    case measure=>omega
    case rel=>
     refine ⟨ck,cn,cd,cs,cl,co,clen,ccap,done++[a'],xs++[.int .i64 ak',.int .i64 an',.int .i64 ad',.string ast',.slice ao' alen' acap'],HX2.out.set _ _ _ _ _,?_,?_,?_,?_,?_,?_,?_⟩
     ·exact (FR.out.kept HB2.out).kept (set5_below _ _ _ _ _ _ _ _ (Nat.le_refl _))
     ·rw[←HCE.out];simpa using HC'.out
     ·rw[←HCE.out];exact Nat.le_refl _
     ·have hne:v'.ownBlock=none∨v'.ownBlock≠some w.heap.size:=by
       cases hv:v'.ownBlock with
       | none=>exact .inl rfl
       | some g=>right;intro e;have:=(HO2.out.lt g hv).1;simp at e;omega
      have:=HO2.out.kept (set5_grown w2 w.heap.size (.int .i64 ck) (.int .i64 cn) (.int .i64 cd) (.string cs) (.slice co clen ccap)) hne
      simpa using this
     ·refine CellsD.snoc ?_ (HC.out.mono fun y v h=>(h.kept HB2.out).kept (set5_below _ _ _ _ _ _ _ _ (Nat.le_refl _)))
      rw[HAE.out]
      exact (ER.out.kept HB2.out).kept (set5_below _ _ _ _ _ _ _ _ (Nat.le_refl _))
     ·rw[HT.out,items_pair,←HCE.out,Option.map_map]
      congr 1
      funext z
      simp
     ·exact (HB.out.trans HB2.out).trans (set5_below _ _ _ _ _ _ _ _ (Nat.le_refl _))
   by_cases k4:k1=4
   ·subst k4
    have hl0:=right_null HRI.out
    have HN:=Lib.hid (show x.items=some done by rw[HT.out,items_other 4 _ _ _ _ (by omega) (fun _=>hl0)];simp)
    clear hl0
    go_wp2_with fail
    go_ret2
    refine ⟨u4,done,by rw[HN.out];rfl,by rw[HN.out];rfl,repS_of_row HO.out HC.out hsz,HB.out⟩
   ·have k6':(k1==6)=false:=by simpa using k6
    have k4':(k1 != 4)=true:=by simpa using k4
    have HN:=Lib.hid (show x.items=none by rw[HT.out,items_other k1 _ _ _ _ k6 (fun h=>absurd h k4),if_neg k4];rfl)
    go_wp2_with fail
    go_ret2
    exact ⟨_,[],by rw[HN.out];rfl,by rw[HN.out];rfl,⟨none,0,0,rfl,rfl,by omega,by omega,rfl,rfl⟩,HB.out⟩
end
end Go.Proofs.YtgbibibmpoekiaaGreatDoor
