/-
  What the proofs lean on: Turn, Ints, Fd0, Ck0, Shf, MapB, TermC, Mid, Step, ContT, Shp0.
-/
import Derived.Laws.AppendOwn
import Derived.Laws.OwnMore
import Derived.Laws.AppendOwnNone
import Derived.OwnWalk
import Derived.Maps.Own
import Derived.Maps.OwnOps
import Derived.Maps.Views
import Derived.Deep.LoopGhost
import Derived.Test.YtgbibibmpoekiaaGreatDoorShfA03
import Derived.Test.YtgbibibmpoekiaaGreatDoorShfA04
import Derived.Test.YtgbibibmpoekiaaGreatDoorShfA06
import Derived.Test.YtgbibibmpoekiaaGreatDoorShfA07
import Derived.Test.YtgbibibmpoekiaaGreatDoorShfA08
import Derived.Test.YtgbibibmpoekiaaGreatDoorShfA10
set_option maxRecDepth 100000
set_option maxHeartbeats 16000000
namespace Go.Proofs.YtgbibibmpoekiaaGreatDoor
section
open Go Go.RowKit
structure Turned (S:Nat→Prop) (A B:World):Prop where
 os:B.os=A.os
 tape:B.tape=A.tape
 output:B.output=A.output
 size:A.heap.size≤B.heap.size
 block:∀b,b<A.heap.size→¬S b→B.heap[b]?=A.heap[b]?
theorem Turned.refl (S:Nat→Prop) (A:World):Turned S A A:=⟨rfl,rfl,rfl,Nat.le_refl _,fun _ _ _=>rfl⟩
theorem Turned.trans {S S':Nat→Prop} {A B C:World} (h:Turned S A B) (h':Turned S' B C) (hS:∀b,b<A.heap.size→S' b→S b):Turned S A C:=
 ⟨h'.os.trans h.os,h'.tape.trans h.tape,h'.output.trans h.output,Nat.le_trans h.size h'.size,fun b hb hn=>(h'.block b (Nat.lt_of_lt_of_le hb h.size) (fun hs=>hn (hS b hb hs))).trans (h.block b hb hn)⟩
theorem Turned.next {S:Nat→Prop} {A B C:World} (h:Turned S A B) (h':Turned S B C):Turned S A C:=h.trans h' fun _ _ h=>h
theorem Turned.wider {S S':Nat→Prop} {A B:World} (h:Turned S A B) (hS:∀b,b<A.heap.size→S b→S' b):Turned S' A B:=⟨h.os,h.tape,h.output,h.size,fun b hb hn=>h.block b hb fun hs=>hn (hS b hb hs)⟩
theorem Turned.of_below {S:Nat→Prop} {A B:World} (h:Below A.heap.size A B):Turned S A B:=⟨h.os,h.tape,h.output,h.size,fun b hb _=>h.block b hb⟩
theorem Turned.below {S:Nat→Prop} {A B:World} (h:Turned S A B) {b0:Nat} (hS:∀b,S b→b0≤b) (hb0:b0≤A.heap.size):Below b0 A B:=
 ⟨h.os,h.tape,h.output,h.size,fun b hb=>h.block b (Nat.lt_of_lt_of_le hb hb0) fun hs=>by have:=hS b hs;omega⟩
theorem Turned.set {S:Nat→Prop} (A:World) (a:Addr) (v:Value) (ha:S a.block):Turned S A (A.setCell a v):=⟨rfl,rfl,rfl,by rw[World.size_setCell];exact Nat.le_refl _,fun b _ hn=>setCell_heap_other A a v fun e=>hn (e ▸ ha)⟩
theorem Turned.grown {S:Nat→Prop} {A B:World} {row:Option Nat} (h:A.grownBy B row) (hr:∀b,row=some b→S b):Turned S A B:=⟨h.os,h.tape,h.output,h.size,fun b hb hn=>h.block b hb fun e=>hn (hr b e.symm)⟩
theorem Turned.box {S:Nat→Prop} {A B:World} (h:Turned S A B) {b:Nat} {t:TypeId} {cs:List Value} (hb:BoxL A b t cs) (hn:¬S b):BoxL B b t cs:=(h.block b hb.lt hn).trans hb
end
section
open Go.RowKit
theorem info_int:(Tryz.prog.info? 3).map (fun i=>(i.zero,i.size,i.bytes))=some (some (.int .i64 0),1,8):=by kernel_rfl
def I64 (n:Int):Prop:=-9223372036854775808≤n∧n≤9223372036854775807
theorem cellsG_ints:∀{l:List Int},(∀x∈l,I64 x)→CellsG 1 IntR l (l.map (Value.int .i64))
 | [],_=>rfl
 | x::l,h=>⟨[.int .i64 x],l.map (Value.int .i64),rfl,rfl,⟨rfl,h x (by simp)⟩,cellsG_ints fun y hy=>h y (by simp[hy])⟩
theorem SlC.i64 {w:World} {B:Nat} {l:List Int} {v:Value} (h:SlC w B 1 IntR l v):∀x∈l,I64 x:=by
 obtain ⟨o,len,cap,rfl,_,_,_,h4⟩:=h
 intro x hx
 obtain ⟨i,hi⟩:=List.mem_iff_getElem?.1 hx
 cases o with
 | none=>rw[h4.1] at hi;simp at hi
 | some a=>
  obtain ⟨cs,_,_,hr⟩:=h4.2 i x hi
  exact hr.2
theorem rowInts {w:World} {base:Nat} {v:Value} {l:List Int} (h:w.ownsRow base 3 1 v l.length (l.map (Value.int .i64))) (hl:∀x∈l,I64 x):SlC w w.heap.size 1 IntR l v:=slC_of_row h (cellsG_ints hl)
theorem ownsRow_new {W:World} {b base:Nat} (hb:b=W.heap.size) (hB:base≤b) (e:TypeId) (size n:Nat) (cs:List Value) (hl:cs.length=n*size) (hn:n≤maxLen):(W.alloc (.cells cs.toArray e)).ownsRow base e size (.slice (some ⟨b,0,none⟩) n n) n cs:=by
 subst hb
 refine ⟨hl,.inr ⟨W.heap.size,n,cs.toArray,rfl,hB,World.alloc_heap_new W _,Nat.le_refl _,hn,by simpa using hl,?_⟩⟩
 rw[List.take_of_length_le (by simp[hl])]
theorem intsCell {w:World} {B:Nat} {l:List Int} {o:Option Addr} {len cap:Nat} (h:SlC w B 1 IntR l (.slice o len cap)) (a:Addr) (ho:o=some a):∀(j:Nat) (u:Value),(l.map (Value.int .i64))[j]?=some u→w.cell? (a.add j)=some u:=by
 subst ho
 intro j u hj
 simp only[List.getElem?_map,Option.map_eq_some_iff] at hj
 obtain ⟨x,hx,rfl⟩:=hj
 obtain ⟨b,off,cs,ha,_,_,hc,hr⟩:=h.at (Below.refl B w) hx
 simp only[Option.some.injEq] at ha
 subst ha
 have h0:=hc 0 (.int .i64 x) (by rw[hr.1];rfl)
 rw[add_none rfl]
 simpa using h0
theorem ints_one (l:List Int):∀u∈l.map (Value.int .i64),u.oneCell'=true:=by
 intro u hu
 obtain ⟨x,_,rfl⟩:=List.mem_map.1 hu
 rfl
theorem wpList_append_ints {w:World} {ops:Array Oper} {rest:List Oper} {o:Oper} {a:Act} {Q:Exit→Act→World→Prop} (hgd:o.guard=none) (s x:Operand)
  (ho:o.op=.call { callee:=.builtin .append,args:=#[s,x],argTypes:=#[23,23] }) (base B:Nat) (v:Value) (xs l:List Int) (hs:a.eval s=v) (hown:w.ownsRow base 3 1 v xs.length (xs.map (Value.int .i64)))
  (oa:Option Addr) (m c:Nat) (hx:a.eval x=.slice oa m c) (hsl:SlC w B 1 IntR l (.slice oa m c)) (hb:(xs.length+l.length)*8≤140737488355328) (hbase:base≤w.heap.size)
  (h:∀v' w',w'.ownsRow base 3 1 v' (xs++l).length ((xs++l).map (Value.int .i64))→w.grownBy w' v.ownBlock→wpList Tryz.prog ops Q rest (a.put o.dst v') w'):wpList Tryz.prog ops Q (o::rest) a w:=by
 obtain ⟨i0,hi,hz0,hz1,hz2⟩:=info_parts info_int
 obtain ⟨rfl,_,_⟩:=hsl.lens
 cases oa with
 | none=>
  obtain ⟨o',l',c',he,_,_,_,h4⟩:=hsl
  simp only[Value.slice.injEq] at he
  obtain ⟨rfl,rfl,rfl⟩:=he
  obtain ⟨rfl,rfl⟩:=h4
  refine wpList_append_own_none hgd s x 23 ho base 3 i0 1 Tryz.underlying23 hi v xs.length _ hs hown hx ?_
  refine h v w (by simpa using hown) ?_
  exact ⟨rfl,rfl,rfl,Nat.le_refl _,fun _ _ _=>rfl⟩
 | some ad=>
  refine wpList_append_own _ hgd s x 23 ho base 3 i0 (.int .i64 0) 1 8 Tryz.underlying23 hi hz0 hz1 hz2 rfl (by decide) v xs.length _ hs hown ad l.length c (l.map (Value.int .i64)) hx (by simp) (intsCell hsl ad rfl) (ints_one l) (by unfold maxLen;omega) hb hbase ?_
  intro v' w' h1 h2 _
  exact h v' w' (by simpa using h1) h2
end
section
open Go Go.RowKit
namespace Fd
open Trm
def value (t:Trm):Bool:=t.op==0 || (t.op==11 || t.op==4)
def light (t:Trm):Bool:=t.op==0 || (t.op==11 || t.op==1)
def idle (t:Trm):Bool:=light t || (t.op==4 || t.op==13)
mutual
def named (x:Int):Trm→Bool
 | mk op n _ t=>(op==1&&n==x) || namedL x t
def namedL (x:Int):List Trm→Bool
 | []=>false
 | y::l=>named x y || namedL x l
end
mutual
def put (by_:List (Int × Trm)):Trm→Trm
 | mk op n v t=>if op=1 then (match by_.lookup n with | some x=>x | none=>mk op n v (putL by_ t)) else mk op n v (putL by_ t)
def putL (by_:List (Int × Trm)):List Trm→List Trm
 | []=>[]
 | y::l=>put by_ y::putL by_ l
end
def dataOf (cs:List Dat):List Trm→Option (List Dat)
 | []=>some []
 | x::l=>if x.op=0 then (match cs[x.n.toNat]?,dataOf cs l with | some d,some r=>some (d::r) | _,_=>none) else none
def prim (F:Int→List Dat→Option Dat) (n:Int) (l:List Trm) (cs:List Dat):Trm × List Dat:=
 match dataOf cs l with
 | none=>(mk 10 n [] l,cs)
 | some data=>match F n data with
  | none=>(mk 10 n [] l,cs)
  | some d=>(mk 0 cs.length [] [],cs++[d])
def flat:List Trm→List Trm
 | []=>[]
 | x::l=>if x.op=6 then x.t++flat l else x::flat l
def seq (l:List Trm):Trm:=
 match ((flat l).dropLast.filter fun x=>!idle x),(flat l).getLast? with
 | [],some x=>x
 | r,some x=>mk 6 0 [] (r++[x])
 | _,none=>mk 6 0 [] []
def lets (last:Trm):List Int→List Trm→List (Int × Trm) × List Int × List Trm
 | v::vs,x::l=>let r:=lets last vs l
  if light x then ((v,x)::r.1,r.2) else if !idle x || named v last then (r.1,v::r.2.1,x::r.2.2) else r
 | _,_=>([],[],[])
def letT (vars:List Int) (l:List Trm):Trm:=
 match l[vars.length]? with
 | none=>mk 8 0 vars l
 | some last=>let r:=lets last vars l
  if r.2.1.isEmpty then put r.1.reverse last else mk 8 0 r.2.1 (r.2.2++[put r.1.reverse last])
def post (F:Int→List Dat→Option Dat) (op n:Int) (v:List Int) (t:List Trm) (cs:List Dat):Trm × List Dat:=
 if op=5 then (match t with
  | []=>(mk op n v t,cs)
  | h::r=>if h.op=11 then prim F h.n r cs
   else if h.op=4∧h.n=0∧h.v.length=r.length then (match h.t with | [b]=>(letT h.v (r++[b]),cs) | _=>(mk op n v t,cs))
   else (mk op n v t,cs))
 else if op=3 then (match t with
  | [a,b,c]=>if a.op=0 then (match cs[a.n.toNat]? with | some d=>if d.kind=1∧d.n=0 then (c,cs) else (b,cs) | none=>(mk op n v t,cs))
   else if a.op=11∨a.op=4 then (b,cs) else (mk op n v t,cs)
  | _=>(mk op n v t,cs))
 else if op=10 then prim F n t cs
 else if op=6 then (seq t,cs)
 else if op=8 then (letT v t,cs)
 else if op=9 then (match t[v.length]? with
  | some last=>if v.any (fun x=>named x last) then (mk op n v t,cs) else (last,cs)
  | none=>(mk op n v t,cs))
 else if op=12 then (match t with | [a]=>if value a then (a,cs) else (mk op n v t,cs) | _=>(mk op n v t,cs))
 else (mk op n v t,cs)
mutual
def term (F:Int→List Dat→Option Dat):Trm→List Dat→Trm × List Dat
 | mk op n v t,cs=>post F op n v (termL F t cs).1 (termL F t cs).2
def termL (F:Int→List Dat→Option Dat):List Trm→List Dat→List Trm × List Dat
 | [],cs=>([],cs)
 | x::l,cs=>((term F x cs).1::(termL F l (term F x cs).2).1,(termL F l (term F x cs).2).2)
end
end Fd
end
section
namespace Trm
def sortB (op:Int):Bool:=[0,1,3,4,5,6,8,9,10,11,12,13,15,16,17,18].contains op
def countsB (op:Int) (nv nt:Nat):Bool:=
 if op=8∨op=9 then decide (nt=nv+1)
 else if op=4 then decide (nt=1)
 else decide (nv=0)&&(if op=0∨op=1∨op=11∨op=13 then decide (nt=0)
  else if op=12∨op=15∨op=16 then decide (nt=1)
  else if op=17∨op=18 then decide (nt=2)
  else if op=3 then decide (nt=3)
  else if op=5∨op=6 then decide (1≤nt)
  else true)
def numberB (nc _nk:Int) (_fr:Bool) (sc:Int→Bool) (op n:Int) (nv:Nat):Bool:=
 if op=0 then decide (0≤n)&&decide (n<nc)
 else if op=1 then sc n
 else if op=10∨op=11 then decide (0≤n)&&decide (n<31)
 else if op=4 then decide (n=0) || (decide (n=1)&&decide (0<nv))
 else decide (n=0)
def addV (sc:Int→Bool) (v:List Int):Int→Bool:=fun x=>sc x || v.contains x
mutual
def wf (nc nk:Int) (fr:Bool):Trm→(Int→Bool)→Bool
 | mk op n v t,sc=>sortB op&&(countsB op v.length t.length&&(numberB nc nk fr sc op n v.length&&wfL nc nk fr op v t sc))
def wfL (nc nk:Int) (fr:Bool):Int→List Int→List Trm→(Int→Bool)→Bool
 | _,_,[],_=>true
 | _,v,[x],sc=>wf nc nk fr x (addV sc v)
 | op,v,x::y::l,sc=>(if op=9 then decide (x.op=4)&&wf nc nk fr x (addV sc v) else wf nc nk fr x sc)&&wfL nc nk fr op v (y::l) sc
end
mutual
def bnd:Trm→List Int
 | mk _ _ v t=>v++bndL t
def bndL:List Trm→List Int
 | []=>[]
 | x::l=>bnd x++bndL l
end
def newB (S:Int→Bool):List Int→Bool
 | []=>true
 | x::l=>(decide (0≤x)&&(decide (x≤1000000) && !S x))&&newB (addV S [x]) l
theorem addV_nil (S:Int→Bool):addV S []=S:=by funext x;simp[addV]
theorem addV_append (S:Int→Bool) (a b:List Int):addV S (a++b)=addV (addV S a) b:=by funext x;simp[addV,Bool.or_assoc]
theorem newB_append (a b:List Int):∀S:Int→Bool,newB S (a++b)=(newB S a&&newB (addV S a) b):=by
 induction a with
 | nil=>intro S;simp[newB,addV_nil]
 | cons x a ih=>intro S;simp[newB,ih,Bool.and_assoc,←addV_append]
theorem newB_iff:∀(l:List Int) (S:Int→Bool),newB S l=true↔(∀x∈l,0≤x∧x≤1000000∧S x=false)∧l.Nodup:=by
 intro l
 induction l with
 | nil=>intro S;simp[newB]
 | cons x l ih=>
  intro S
  rw[newB,Bool.and_eq_true,ih]
  simp only[Bool.and_eq_true,decide_eq_true_eq,Bool.not_eq_true',List.mem_cons,forall_eq_or_imp,List.nodup_cons,addV,Bool.or_eq_false_iff,List.contains_eq_mem,List.not_mem_nil,or_false,decide_eq_false_iff_not]
  constructor
  ·rintro ⟨⟨h1,h2,h3⟩,h4,h5⟩
   exact ⟨⟨⟨h1,h2,h3⟩,fun y hy=>⟨(h4 y hy).1,(h4 y hy).2.1,(h4 y hy).2.2.1⟩⟩,fun hx=>(h4 x hx).2.2.2 rfl,h5⟩
  ·rintro ⟨⟨⟨h1,h2,h3⟩,h4⟩,h5,h6⟩
   exact ⟨⟨h1,h2,h3⟩,fun y hy=>⟨(h4 y hy).1,(h4 y hy).2.1,(h4 y hy).2.2,fun e=>h5 (e ▸ hy)⟩,h6⟩
theorem newB_perm {a b:List Int} (h:a.Perm b) (S:Int→Bool):newB S a=newB S b:=by
 rw[Bool.eq_iff_iff,newB_iff,newB_iff]
 exact ⟨fun ⟨h1,h2⟩=>⟨fun x hx=>h1 x (h.mem_iff.2 hx),h.nodup_iff.1 h2⟩,fun ⟨h1,h2⟩=>⟨fun x hx=>h1 x (h.mem_iff.1 hx),h.nodup_iff.2 h2⟩⟩
theorem nodup_short:∀(N:Nat) (l:List Int),l.Nodup→(∀x∈l,0≤x∧x<N)→l.length≤N
 | 0,l,_,h=>by
  cases l with
  | nil=>simp
  | cons x l=>have:=h x (by simp);omega
 | N+1,l,hd,h=>by
  have h1:=nodup_short N (l.erase (N:Int)) (hd.erase _) (fun x hx=>by
   have:=(hd.mem_erase_iff).1 hx
   have:=h x this.2
   omega)
  have:=List.le_length_erase (a:=(N:Int)) (l:=l)
  omega
theorem newB_short {S:Int→Bool} {l:List Int} (h:newB S l=true):l.length≤1000001:=by
 obtain ⟨h1,h2⟩:=(newB_iff l S).1 h
 exact nodup_short 1000001 l h2 fun x hx=>by have:=h1 x hx;omega
theorem all_pos:∀x:Trm,1≤x.all
 | mk _ _ _ t=>by rw[all];omega
theorem allL_length:∀l:List Trm,l.length≤allL l
 | []=>Nat.le_refl _
 | x::l=>by have:=allL_length l;have:=all_pos x;rw[allL,List.length_cons];omega
end Trm
end
section
namespace Trm
mutual
def shift (r:Int→Int):Trm→Trm
 | mk op n v t=>mk op (if op=1∨op=2∨op=14 then r n else n) (v.map r) (shiftL r t)
def shiftL (r:Int→Int):List Trm→List Trm
 | []=>[]
 | x::l=>shift r x::shiftL r l
end
theorem shiftL_eq (r:Int→Int):∀l:List Trm,shiftL r l=l.map (shift r)
 | []=>rfl
 | x::l=>by rw[shiftL,shiftL_eq r l];rfl
mutual
theorem shift_all (r:Int→Int):∀x:Trm,(shift r x).all=x.all
 | mk op n v t=>by rw[shift,all,all,shiftL_all r t]
theorem shiftL_all (r:Int→Int):∀l:List Trm,allL (shiftL r l)=allL l
 | []=>by rw[shiftL]
 | x::l=>by rw[shiftL,allL,allL,shift_all r x,shiftL_all r l]
end
end Trm
end
section
open Go.RowKit Go.Maps
theorem plainElem_bool_inv {H:Type} {P:Program} {e:TypeId} (he:P.underlying e=some .bool) {v:Value} {z:DataW H × List MemPlace} (h:plainElem P e v=some z):∃a,v=.bool a∧z=(.lit (.bool a),[]):=by
 unfold plainElem at h
 rw[he] at h
 cases v<;>simp at h
 exact ⟨_,rfl,h.symm⟩
theorem wpList_lookup_own_bool {H:Type} {P:Program} (w:World) {ops:Array Oper} {rest:List Oper} {o:Oper} {a:Act} {Q:Exit→Act→World→Prop}
  (hg:Region.wanted o (yielded ops a.tmps)=true) (m x:Operand) (t:TypeId) (hop:o.op=Op.lookup t m x false)
  (k e:TypeId) (K:Keyed P k) (ht:P.underlying t=some (.map k e)) (he:P.underlying e=some .bool) (hz:(zeroValue e).run P w=.ok (.bool false) w) (b n:Nat) (D:DataW H)
  (hm:a.eval m=.map (some b)) (hown:w.ownsMap P k (plainElem P e) b n D) (key:Value) (kl:Lit) (hx:a.eval x=key) (hkey:keyOf P k key=some kl) (c:Bool) (hat:D.atKey kl (.lit (.bool false))=.lit (.bool c))
  (hK:wpList P ops Q rest (a.put o.dst (.bool c)) w):wpList P ops Q (o::rest) a w:=by
 obtain ⟨v,ps,hrun,hv⟩:=hown.lookup K ht hz (plainElem_bool he false) hkey
 obtain ⟨c',rfl,hc⟩:=plainElem_bool_inv he hv
 simp only[Prod.mk.injEq] at hc
 rw[hat] at hc
 obtain rfl:c=c':=by simpa using hc.1
 unfold wpList
 rw[if_pos hg]
 left
 unfold Oper.wp
 simp[execOp,hop,hm,hx,hrun,Result.andThen]
 exact hK
end
section
open Go Go.RowKit
theorem dright_to' (x:Dat) (v:Value) (B:Nat) (w:World) (r:Bool) (hr:Dat.right x 0=r) (hv:RepD w B x v) (hB:B≤w.heap.size) :
  Calls Tryz.prog 60 #[v] w fun e w'=>e=.returned (.bool r)∧Below w.heap.size w w':=by
 rw[←hr];exact dright_any x v B w hv hB
theorem const1_to (x:Dat) (v:Value) (B:Nat) (w:World) (hv:RepD w B x v) (hB:B≤w.heap.size) :
  Calls Tryz.prog 59 #[v] w fun e w'=>e=.returned (.bool (!Dat.right x 0))∧Below w.heap.size w w':=by
 obtain ⟨k,n,d,s,o,len,cap,rfl⟩:=agg_of hv
 obtain ⟨r,hr⟩:∃r,Dat.right x 0=r:=⟨_,rfl⟩
 rw[hr]
 have HC:=Lib.hid (fun X=>dright_to' x _ B (w.alloc X) r hr (hv.kept ((Below.one w X).mono hB)) (by simp;omega))
 clear hr hv
 go_enter Tryz.func59,Tryz.ntmps59
 go_wp2_with fail
 refine (HC.out _).mono ?_
 rintro e w1 ⟨rfl,hb1⟩
 go_wp2_with fail
 go_ret
 exact ⟨rfl,one_below hb1⟩
theorem constants_any (l:List Dat) (v:Value) (B:Nat) (w:World) (hv:RepS w B l v) (hB:B≤w.heap.size) :
  Calls Tryz.prog 33 #[v] w fun e w'=>e=.returned (.bool (l.all fun x=>Dat.right x 0))∧Below w.heap.size w w':=by
 obtain ⟨rc,hrc⟩:∃rc,l.any (fun x=>!Dat.right x 0)=rc:=⟨_,rfl⟩
 have HR:=Lib.hid (show (l.all fun x=>Dat.right x 0) = !rc from by rw[←hrc,List.not_any_eq_all_not];simp only[Bool.not_not])
 have HC:=Lib.hid (containsFunc_S 59 #[] (fun x=>!Dat.right x 0) rc l v B w hv hB (fun _ _=>rfl) (fun x _ v W hr hbW=>by
  exact const1_to x v B W hr (by have:=hbW.size;omega)) hrc)
 obtain ⟨o,len,cap,rfl,hx⟩:=hv
 clear hx hrc
 rw[HR.out]
 go_enter Tryz.func33,Tryz.ntmps33
 go_wp2_with fail
 refine HC.out.mono ?_
 rintro e w1 ⟨rfl,hb1⟩
 have HB:=Lib.hid hb1
 clear hb1 HC
 go_wp2_with fail
 go_ret
 exact ⟨rfl,HB.out⟩
theorem group_any (o n:Int) (vs ts:Value) (ov ot:Option Addr) (lv cv lt ct:Nat) (hv:vs=.slice ov lv cv) (ht:ts=.slice ot lt ct) (w:World) :
  Calls Tryz.prog 57 #[.agg #[.int .i64 o,.int .i64 n,vs,ts]] w fun e w'=>e=.returned (.bool (o==7 || o==9))∧Below w.heap.size w w':=by
 subst hv ht
 by_cases h7:o=7
 ·subst h7
  go_enter Tryz.func57,Tryz.ntmps57
  go_wp2_with fail
  go_ret
  exact ⟨rfl,by first | exact Below.one w _ | exact Below.drewN (Below.one w _) _⟩
 ·have f7:(o==7)=false:=by simpa using h7
  rw[f7]
  go_enter Tryz.func57,Tryz.ntmps57
  go_wp2_with fail
  go_ret
  exact ⟨rfl,by first | exact Below.one w _ | exact Below.drewN (Below.one w _) _⟩
end
section
open Go
section
variable {P : Program} {ops : Array Oper} {md : Region.Mode} {C : World → Prop}
def coneB (md:Region.Mode) (ops:Array Oper) (n:Nat):Bool:=(List.range ops.size).all fun t=>decide (t≤n) || (List.range t).any fun s=>decide (n≤s)&&Region.waitsFor md ops t s
theorem cone_waits {n:Nat} {listed:Array Bool} (hs:Region.sinkB md ops n=true) (hc:coneB md ops n=true) (hn:n<ops.size) (inv:HeadInv md ops n listed) :
  ∀(d i:Nat),n-i=d→i<n→listed.getD i true=false→∀t,n≤t→t∉Region.ready md ops listed:=by
 intro d
 induction d using Nat.strongRecOn with
 | _ d ih=>
  intro i hd hi hun t ht hr
  obtain ⟨_,ot,hot,hall⟩:=mem_ready.1 hr
  have htlt:t<ops.size:=(Array.getElem?_eq_some_iff.1 hot).1
  by_cases htn:t=n
  ·subst htn
   have h1:=List.all_eq_true.1 hs i (List.mem_range.2 hi)
   obtain ⟨j,hj,hj2⟩:=List.any_eq_true.1 h1
   simp only[Bool.and_eq_true,decide_eq_true_eq] at hj2
   obtain ⟨oj,hoj,e,he,hb,hon⟩:=Region.waitsFor_spec hj2.2
   have hjle:j≤t:=by have:=List.mem_range.1 hj;omega
   by_cases hjt:j=t
   ·subst hjt
    have:oj=ot:=Option.some.inj (hoj.symm.trans hot)
    subst this
    have h2:=hall e he hb
    rw[hon,getD_both hun] at h2
    cases h2
   ·cases hl:listed.getD j false with
    | true=>
     have h2:=inv.closed j oj hoj hl e he hb
     rw[hon,getD_both hun] at h2
     cases h2
    | false=>
     have hjs:j<listed.size:=by rw[inv.size];omega
     exact ih (t-j) (by omega) j rfl (by omega) (getD_in hjs hl) t (Nat.le_refl _) hr
  ·have h1:=List.all_eq_true.1 hc t (List.mem_range.2 htlt)
   simp only[Bool.or_eq_true,decide_eq_true_eq] at h1
   rcases h1 with h1 | h1
   ·omega
   ·obtain ⟨s,hs',h2⟩:=List.any_eq_true.1 h1
    simp only[Bool.and_eq_true,decide_eq_true_eq] at h2
    obtain ⟨o',ho',e,he,hb,hon⟩:=Region.waitsFor_spec h2.2
    have:o'=ot:=Option.some.inj (ho'.symm.trans hot)
    subst this
    have h3:=hall e he hb
    have:=List.mem_range.1 hs'
    rw[hon,getD_both (inv.tail s h2.1 (by omega))] at h3
    cases h3
theorem mid_front {n i:Nat} {oi:Oper} {v:Value} {L:Array Bool→Act→Prop} (hi:ops[i]?=some oi) (hsel:∀(j:Nat) (o:Oper) cs b,ops[j]?=some o→o.op≠.select cs b)
  (hs:Region.sinkB md ops n=true) (hc:coneB md ops n=true) (hn:n<ops.size) (hin:i<n) (hdone:∀listed a,L listed a→∀j∈Region.ready md ops listed,n≤j) :
  ∀(f:Nat) (listed:Array Bool) (a:Act),HeadInv md ops n listed →
   (∀j oj,ops[j]?=some oj→j≠i→listed.getD j true=false→(∀e∈oj.after,Region.binds md e=true→e.on≠i)→oi.apart ops oj=true) →
   i∈Region.ready md ops listed→YieldsIn P ops C oi v a →
   headAny P md ops C n L f (listed.setIfInBounds i true) (a.put oi.dst v)→headAny P md ops C n L (f+1) listed a:=by
 intro f
 induction f with
 | zero=>
  intro listed a inv _ hr hy H
  have hun:=(mem_ready.1 hr).1
  refine ⟨fun h=>(by rw[h] at hr;cases hr),fun j hj=>?_⟩
  have hjn:j<n:=by
   rcases Nat.lt_or_ge j n with h | h
   ·exact h
   ·exact absurd hj (cone_waits hs hc hn inv _ i rfl hin hun j h)
  refine ⟨hjn,?_⟩
  by_cases hji:j=i
  ·subst hji;exact hy.qOp hi H
  ·have:=hdone _ _ H j (ready_mono hj hji)
   omega
 | succ f ih=>
  intro listed a inv hfree hr hy H
  have hun:=(mem_ready.1 hr).1
  refine ⟨fun h=>(by rw[h] at hr;cases hr),fun j hj=>?_⟩
  have hjn:j<n:=by
   rcases Nat.lt_or_ge j n with h | h
   ·exact h
   ·exact absurd hj (cone_waits hs hc hn inv _ i rfl hin hun j h)
  refine ⟨hjn,?_⟩
  by_cases hji:j=i
  ·subst hji;exact hy.qOp hi H
  ·have h1:=(H.2 j (ready_mono hj hji)).2
   obtain ⟨hjun,oj,hoj,hall⟩:=mem_ready.1 hj
   have hnot:∀e∈oj.after,Region.binds md e=true→e.on≠i:=fun e he hb heq=>by
    have h1:=hall e he hb
    rw[heq,getD_both hun] at h1
    cases h1
   have h2:=qOp_put hoj (hfree j oj hoj hji hjun hnot) (fun cs b=>hsel i oi cs b hi) (fun cs b=>hsel j oj cs b hoj) hy h1
   have hfree':∀k ok,ops[k]?=some ok→k≠i→(listed.setIfInBounds j true).getD k true=false→(∀e∈ok.after,Region.binds md e=true→e.on≠i)→oi.apart ops ok=true:=fun k ok hk hki hunk hno=>by
    refine hfree k ok hk hki ?_ hno
    by_cases hjk:j=k
    ·subst hjk;exact hjun
    ·rw[getD_set_ne true hjk] at hunk;exact hunk
   refine qOp_mono (fun a' h3=>ih (listed.setIfInBounds j true) a' (inv.set hj hjn) hfree' (ready_mono hr (Ne.symm hji)) h3.1 ?_) h2
   rw[Array.setIfInBounds_comm _ _ hji]
   exact h3.2
def lexMid (md:Region.Mode) (ops:Array Oper) (g:Nat):Nat→Nat→Array Bool→Bool
 | 0,k,listed=>decide (Region.ready md ops listed=[k])&&Region.lexFrom md ops g (k+1) (listed.setIfInBounds k true)
 | f+1,k,listed=>(Region.ready md ops listed).contains k&&Region.free md ops listed k&&lexMid md ops g f (k+1) (listed.setIfInBounds k true)
def lexMidB (md:Region.Mode) (ops:Array Oper) (n:Nat):Bool:=
 Region.noSelect ops&&decide (n<ops.size)&&Region.sinkB md ops n&&coneB md ops n&&lexMid md ops (ops.size-n-1) n 0 (Array.replicate ops.size false)
theorem mid_lex {n g:Nat} {Lq:Act→Prop} (hsel:Region.noSelect ops=true) (hs:Region.sinkB md ops n=true) (hc:coneB md ops n=true) (hn:n<ops.size) :
  ∀(l:List Oper) (k:Nat) (listed:Array Bool) (a:Act),(∀j,j<l.length→l[j]?=ops[k+j]?)→k+l.length=n→HeadInv md ops n listed →
  lexMid md ops g l.length k listed=true→wpQuiet P ops C Lq l a →
  headAny P md ops C n (fun listed' a'=>(Region.ready md ops listed'=[n]∧Region.lexFrom md ops g (n+1) (listed'.setIfInBounds n true)=true)∧Lq a') l.length listed a
 | [],k,listed,a,_,hk,_,hB,h=>by
  have:k=n:=by simpa using hk
  subst this
  exact ⟨by simpa[lexMid] using hB,h⟩
 | o::l,k,listed,a,hl,hk,inv,hB,h=>by
  have h0:ops[k]?=some o:=by simpa using (hl 0 (by simp)).symm
  simp only[List.length_cons,lexMid,Bool.and_eq_true] at hB
  obtain ⟨⟨hr,hf⟩,hB'⟩:=hB
  have hkn:k<n:=by simp only[List.length_cons] at hk;omega
  have hr':k∈Region.ready md ops listed:=by simpa using hr
  have hst:qOp P ops C k (wpQuiet P ops C Lq l) a:=by unfold qOp;simp only[h0];exact h
  obtain ⟨v,hy,hK⟩:=yieldsIn_of_qOp h0 hst
  exact mid_front h0 (Region.noSelect_spec hsel) hs hc hn hkn (fun listed' a' hL j hj=>by rw[hL.1.1] at hj;simp at hj;omega) l.length listed a inv (Region.free_spec h0 hf) hr' hy
   (mid_lex hsel hs hc hn l (k+1) _ _ (fun j hj=>by have:=hl (j+1) (by simp;omega);simpa[Nat.add_assoc,Nat.add_comm 1 j] using this) (by simp only[List.length_cons] at hk;omega) (inv.set hr' hkn) hB' hK)
theorem quietAt_of {o:Oper} {a:Act} {w:World} {v:Value} (h:(execOp a.eval o).run P w=.ok (.value v) w):o.quietAt P a C w v:=by
 unfold Oper.quietAt
 rw[h]
 exact ⟨rfl,rfl⟩
def MidPost (P:Program) (ops:Array Oper) (Q:Exit→Act→World→Prop) (rest:List Oper) (e:Exit) (a:Act) (w:World):Prop:=
 e=.normal∧∃D:World→Prop,D w∧wpQuiet P ops D (fun a'=>∀w',D w'→Q .normal a' w') rest a
theorem op_of_list {Q:Exit→Act→World→Prop} {K:Act→World→Prop} {i:Nat} {o:Oper} {a:Act} {w:World} (ho:ops[i]?=some o) (h:wpList P ops (fun e a' w'=>e=.normal∧K a' w') [o] a w):wpOp P ops Q i K a w:=by
 unfold wpOp
 simp only[ho]
 by_cases hw:Region.wanted o (yielded ops a.tmps)=true
 ·rw[if_pos hw]
  exact .inl (wp_of_list (ops:=ops) hw h)
 ·unfold wpList at h
  rw[if_neg hw] at h ⊢
  exact h.2
theorem wp_region_mid {id:Nat} {Q:Exit→Act→World→Prop} {a:Act} {w:World} {l:List Oper} (C:World→Prop) (n:Nat) (hm:P.follows .mixedOrders=true) (hB:lexMidB .any l.toArray n=true) (hC:C w.drew)
  (h:wpQuiet P l.toArray C (fun a'=>∀w',C w'→wpList P l.toArray (MidPost P l.toArray Q (l.drop (n+1))) ((l.drop n).take 1) a' w') (l.take n) a):(Code.region id l.toArray true).wp P Q a w:=by
 simp only[lexMidB,Bool.and_eq_true,decide_eq_true_eq] at hB
 obtain ⟨⟨⟨⟨hsel,hn⟩,hs⟩,hc⟩,hlex⟩:=hB
 have hn':n<l.length:=by simpa using hn
 have htl:(l.take n).length=n:=by simp;omega
 have hdl:(l.drop (n+1)).length=l.toArray.size-n-1:=by simp;omega
 obtain ⟨o,ho⟩:∃o,l[n]?=some o:=⟨_,List.getElem?_eq_getElem hn'⟩
 have ho1:(l.drop n).take 1=[o]:=by
  rw[List.drop_eq_getElem_cons hn']
  rw[List.getElem?_eq_getElem hn'] at ho
  simp only[Option.some.injEq] at ho
  simp[ho]
 have inv0:HeadInv .any l.toArray n (Array.replicate l.toArray.size false):=
  ⟨by simp,fun j oj _ hl=>(by rw[getD_replicate_false] at hl;cases hl),fun t _ ht=>getD_in (by simpa using ht) (getD_replicate_false _ _)⟩
 have H:=mid_lex (md:=.any) (g:=l.toArray.size-n-1) hsel hs hc hn (l.take n) 0 _ a (fun j hj=>by
  have hj':j<n:=by rw[htl] at hj;exact hj
  simp[hj']) (by simpa using htl) inv0 (by rw[htl];exact hlex) h
 refine wp_region_any hm ?_
 have:=any_of_head (Q':=Q) (g:=(l.toArray.size-n-1)+1) (fun listed a' w' hC' hL=>by
  obtain ⟨⟨hr,hlx⟩,hL⟩:=hL
  refine ⟨fun h0=>(by rw[h0] at hr;cases hr),fun i hi=>?_⟩
  rw[hr] at hi
  obtain rfl:i=n:=by simpa using hi
  have h1:=hL w' hC'
  rw[ho1] at h1
  have h2:wpList P l.toArray (fun e a2 w2=>e=.normal∧∃D:World→Prop,D w2∧wpQuiet P l.toArray D (fun a3=>∀w3,D w3→Q .normal a3 w3) (l.drop (i+1)) a2) [o] a' w':=h1
  refine wpOp_mono (fun a2 w2 hK=>?_) (op_of_list (o:=o) (by simpa using ho) h2)
  obtain ⟨D,hD,hq⟩:=hK
  have h3:=wpAnyQ_lex (C:=D) (md:=.any) hsel (l.drop (i+1)) (i+1) (listed.setIfInBounds i true) a2 (fun j=>by simp[List.getElem?_drop]) (by rw[hdl];exact hlx) hq
  rw[hdl] at h3
  exact wpAny_of_quiet (Q:=fun a3=>∀w3,D w3→Q .normal a3 w3) (fun _ w3 hw3 h=>h w3 hw3) _ _ _ _ hD h3) _ _ _ _ hC H
 rw[htl,show n+(l.toArray.size-n-1+1)=l.toArray.size by omega] at this
 exact this
theorem class_eq {C:World→Prop}:(fun w':World=>∃t:{ w':World // C w' },w'=t.1)=C:=by
 funext w'
 exact propext ⟨fun ⟨t,ht⟩=>ht ▸ t.2,fun hw=>⟨⟨w',hw⟩,rfl⟩⟩
theorem wp_region_mid_class {id:Nat} {Q:Exit→Act→World→Prop} {a:Act} {w:World} {l:List Oper} (C:World→Prop) (n:Nat) (hm:P.follows .mixedOrders=true) (hB:lexMidB .any l.toArray n=true) (hC:C w.drew)
  (h:∀(T:Type) [Nonempty T] (W:T→World),(∀t,C (W t))→(∀w',C w'→∃t,w'=W t)→wpQuiet P l.toArray (fun w'=>∃t,w'=W t) (fun a'=>∀t,wpList P l.toArray (MidPost P l.toArray Q (l.drop (n+1))) ((l.drop n).take 1) a' (W t)) (l.take n) a):(Code.region id l.toArray true).wp P Q a w:=by
 haveI:Nonempty { w':World // C w' }:=⟨⟨_,hC⟩⟩
 have h1:=h { w':World // C w' } (fun t=>t.1) (fun t=>t.2) (fun w' hw=>⟨⟨w',hw⟩,rfl⟩)
 rw[class_eq] at h1
 refine wp_region_mid C n hm hB hC ?_
 have e2:(fun a'=>∀w',C w'→wpList P l.toArray (MidPost P l.toArray Q (l.drop (n+1))) ((l.drop n).take 1) a' w')=(fun a'=>∀t:{ w':World // C w' },wpList P l.toArray (MidPost P l.toArray Q (l.drop (n+1))) ((l.drop n).take 1) a' t.1):=by
  funext a'
  exact propext ⟨fun h t=>h t.1 t.2,fun h w' hw=>h ⟨w',hw⟩⟩
 rw[e2]
 exact h1
theorem mid_rest {Q:Exit→Act→World→Prop} {a:Act} {w:World} {rest:List Oper} (C:World→Prop) (hC:C w)
  (h:∀(T:Type) [Nonempty T] (W:T→World),(∀t,C (W t))→(∀w',C w'→∃t,w'=W t)→wpQuiet P ops (fun w'=>∃t,w'=W t) (fun a'=>∀t,Q .normal a' (W t)) rest a):MidPost P ops Q rest .normal a w:=by
 haveI:Nonempty { w':World // C w' }:=⟨⟨_,hC⟩⟩
 have h1:=h { w':World // C w' } (fun t=>t.1) (fun t=>t.2) (fun w' hw=>⟨⟨w',hw⟩,rfl⟩)
 rw[class_eq] at h1
 refine ⟨rfl,C,hC,?_⟩
 have e2:(fun a'=>∀w',C w'→Q .normal a' w')=(fun a'=>∀t:{ w':World // C w' },Q .normal a' t.1):=by
  funext a'
  exact propext ⟨fun h t=>h t.1 t.2,fun h w' hw=>h ⟨w',hw⟩⟩
 rw[e2]
 exact h1
end
end
section
open Go.RowKit
def leafV (k n d:Int):Value:=.agg #[.int .i64 k,.int .i64 n,.int .i64 d,.string ⟨#[]⟩,.slice none 0 0]
def EndPost (B2:Nat) (r:Dat × Int) (w:World) (e:Ending) (w':World):Prop:=∃(k n d:Int) (s:ByteArray) (o:Option Addr) (len cap:Nat),e=.returned (.tuple #[.agg #[.int .i64 k,.int .i64 n,.int .i64 d,.string s,.slice o len cap],.int .i64 r.2])∧RepD w' B2 r.1 (.agg #[.int .i64 k,.int .i64 n,.int .i64 d,.string s,.slice o len cap])∧Below w.heap.size w w'
theorem endPost_leaf {B2:Nat} {x:Dat} {e k n d:Int} {w w':World} (hk:-9223372036854775808≤k∧k≤9223372036854775807) (hn:-9223372036854775808≤n∧n≤9223372036854775807) (hd:-9223372036854775808≤d∧d≤9223372036854775807) (hx:x=.mk k n d ⟨#[]⟩ []) (hb:Below w.heap.size w w'):EndPost B2 (x,e) w (.returned (.tuple #[leafV k n d,.int .i64 e])) w':=
 ⟨k,n,d,⟨#[]⟩,none,0,0,rfl,by rw[hx];exact rep_leaf k n d ⟨#[]⟩ hk hn hd (by decide),hb⟩
theorem whole_any (n:Int) (w:World):Calls Tryz.prog 121 #[.int .i64 n] w fun e w'=>e=.returned (leafV 0 n 1)∧Below w.heap.size w w':=by
 go_enter Tryz.func121,Tryz.ntmps121
 go_wp2_with fail
 exact bodyPost_ret (v:=leafV 0 n 1) (by simp[results,Tryz.results121,go_sem,leafV]) rfl ⟨rfl,(Below.refl _ _).alloc (Nat.le_refl _) _⟩
theorem truth_any (b:Bool) (w:World):Calls Tryz.prog 115 #[.bool b] w fun e w'=>e=.returned (leafV 1 (if b then 1 else 0) 0)∧Below w.heap.size w w':=by
 cases b
 all_goals
  go_enter Tryz.func115,Tryz.ntmps115
  go_wp2_with fail
 ·exact bodyPost_ret (v:=leafV 1 0 0) (by simp[results,Tryz.results115,go_sem,leafV]) rfl ⟨rfl,(Below.refl _ _).alloc (Nat.le_refl _) _⟩
 ·exact bodyPost_ret (v:=leafV 1 1 0) (by simp[results,Tryz.results115,go_sem,leafV]) rfl ⟨rfl,(Below.refl _ _).alloc (Nat.le_refl _) _⟩
theorem step_0 (ka na da kb nb db:Int) (sa sb:ByteArray) (oa ob:Option Addr) (la ca lb cb:Nat) (x y z:Int) (hq:Prims.step 0 na da nb db=(x,y,z)) (h0:-9223372036854775808≤na) (h1:na≤9223372036854775807) (h2:-9223372036854775808≤da) (h3:da≤9223372036854775807) (h4:-9223372036854775808≤nb) (h5:nb≤9223372036854775807) (h6:-9223372036854775808≤db) (h7:db≤9223372036854775807) (w:World) :
  Calls Tryz.prog 141 #[.int .i64 0,.agg #[.int .i64 ka,.int .i64 na,.int .i64 da,.string sa,.slice oa la ca],.agg #[.int .i64 kb,.int .i64 nb,.int .i64 db,.string sb,.slice ob lb cb]] w fun e w'=>e=.returned (.tuple #[leafV 0 x y,.int .i64 z])∧Below w.heap.size w w':=by
 have HQ:=Lib.hid (fun W=>add_to na da nb db x y z (by simpa[Prims.step] using hq) h0 h1 h2 h3 h4 h5 h6 h7 W)
 clear hq
 have HK:=Lib.hid (fun X Y Z=>(((Below.refl w.heap.size w).alloc (Nat.le_refl _) X).alloc (by simp) Y).alloc (by simp;omega) Z)
 have HX:=Lib.hid (fun X Y=>(show Box5 (((w.alloc X).alloc Y).alloc (.cells #[.int .i64 0,.int .i64 0,.int .i64 0,.string ⟨#[]⟩,.slice none 0 0] 45)) (w.heap.size+2) 45 (.int .i64 0) (.int .i64 0) (.int .i64 0) (.string ⟨#[]⟩) (.slice none 0 0) by
  have:=Box5.new ((w.alloc X).alloc Y) 45 (.int .i64 0) (.int .i64 0) (.int .i64 0) (.string ⟨#[]⟩) (.slice none 0 0)
  rwa[World.size_alloc,World.size_alloc] at this))
 go_enter Tryz.func141,Tryz.ntmps141
 go_wp2_with fail
 refine (HQ.out _).mono ?_
 rintro e1 w1 ⟨rfl,nk,hw1⟩
 have hb1:Below w.heap.size w w1:=by rw[hw1];exact Below.drewN (HK.out _ _ _) _
 have hbox:Box5 w1 (w.heap.size+2) 45 (.int .i64 0) (.int .i64 0) (.int .i64 0) (.string ⟨#[]⟩) (.slice none 0 0):=by rw[hw1];exact ((Below.selfN _ _).block _ (by simp)).trans (HX.out _ _)
 clear hw1
 obtain ⟨q0,q1,q2,q3,q4⟩:=hbox.cells
 obtain ⟨z0,z1,z2,z3,z4⟩:=hbox.free
 have hlt:=hbox.lt
 have HB:=Lib.hid hb1
 obtain ⟨r0,r1,r2,r3,r4⟩:=(hbox.set (.int .i64 0) (.int .i64 x) (.int .i64 y) (.string ⟨#[]⟩) (.slice none 0 0)).cells
 go_wp2_with fail
 exact bodyPost_ret (v:=.tuple #[leafV 0 x y,.int .i64 z]) (by simp[results,Tryz.results141,go_sem,leafV,r0,r1,r2,r3,r4]) rfl ⟨rfl,HB.out.trans (set5_below w1 (w.heap.size+2) w.heap.size _ _ _ _ _ (by omega))⟩
theorem step_1 (ka na da kb nb db:Int) (sa sb:ByteArray) (oa ob:Option Addr) (la ca lb cb:Nat) (x y z:Int) (hq:Prims.step 1 na da nb db=(x,y,z)) (h0:-9223372036854775808≤na) (h1:na≤9223372036854775807) (h2:-9223372036854775808≤da) (h3:da≤9223372036854775807) (h4:-9223372036854775808≤nb) (h5:nb≤9223372036854775807) (h6:-9223372036854775808≤db) (h7:db≤9223372036854775807) (w:World) :
  Calls Tryz.prog 141 #[.int .i64 1,.agg #[.int .i64 ka,.int .i64 na,.int .i64 da,.string sa,.slice oa la ca],.agg #[.int .i64 kb,.int .i64 nb,.int .i64 db,.string sb,.slice ob lb cb]] w fun e w'=>e=.returned (.tuple #[leafV 0 x y,.int .i64 z])∧Below w.heap.size w w':=by
 have HQ:=Lib.hid (fun W=>sub_to na da nb db x y z (by simpa[Prims.step] using hq) h0 h1 h2 h3 h4 h5 h6 h7 W)
 clear hq
 have HK:=Lib.hid (fun X Y Z=>(((Below.refl w.heap.size w).alloc (Nat.le_refl _) X).alloc (by simp) Y).alloc (by simp;omega) Z)
 have HX:=Lib.hid (fun X Y=>(show Box5 (((w.alloc X).alloc Y).alloc (.cells #[.int .i64 0,.int .i64 0,.int .i64 0,.string ⟨#[]⟩,.slice none 0 0] 45)) (w.heap.size+2) 45 (.int .i64 0) (.int .i64 0) (.int .i64 0) (.string ⟨#[]⟩) (.slice none 0 0) by
  have:=Box5.new ((w.alloc X).alloc Y) 45 (.int .i64 0) (.int .i64 0) (.int .i64 0) (.string ⟨#[]⟩) (.slice none 0 0)
  rwa[World.size_alloc,World.size_alloc] at this))
 go_enter Tryz.func141,Tryz.ntmps141
 go_wp2_with fail
 refine (HQ.out _).mono ?_
 rintro e1 w1 ⟨rfl,nk,hw1⟩
 have hb1:Below w.heap.size w w1:=by rw[hw1];exact Below.drewN (HK.out _ _ _) _
 have hbox:Box5 w1 (w.heap.size+2) 45 (.int .i64 0) (.int .i64 0) (.int .i64 0) (.string ⟨#[]⟩) (.slice none 0 0):=by rw[hw1];exact ((Below.selfN _ _).block _ (by simp)).trans (HX.out _ _)
 clear hw1
 obtain ⟨q0,q1,q2,q3,q4⟩:=hbox.cells
 obtain ⟨z0,z1,z2,z3,z4⟩:=hbox.free
 have hlt:=hbox.lt
 have HB:=Lib.hid hb1
 obtain ⟨r0,r1,r2,r3,r4⟩:=(hbox.set (.int .i64 0) (.int .i64 x) (.int .i64 y) (.string ⟨#[]⟩) (.slice none 0 0)).cells
 go_wp2_with fail
 exact bodyPost_ret (v:=.tuple #[leafV 0 x y,.int .i64 z]) (by simp[results,Tryz.results141,go_sem,leafV,r0,r1,r2,r3,r4]) rfl ⟨rfl,HB.out.trans (set5_below w1 (w.heap.size+2) w.heap.size _ _ _ _ _ (by omega))⟩
theorem step_2 (ka na da kb nb db:Int) (sa sb:ByteArray) (oa ob:Option Addr) (la ca lb cb:Nat) (x y z:Int) (hq:Prims.step 2 na da nb db=(x,y,z)) (h0:-9223372036854775808≤na) (h1:na≤9223372036854775807) (h2:-9223372036854775808≤da) (h3:da≤9223372036854775807) (h4:-9223372036854775808≤nb) (h5:nb≤9223372036854775807) (h6:-9223372036854775808≤db) (h7:db≤9223372036854775807) (w:World) :
  Calls Tryz.prog 141 #[.int .i64 2,.agg #[.int .i64 ka,.int .i64 na,.int .i64 da,.string sa,.slice oa la ca],.agg #[.int .i64 kb,.int .i64 nb,.int .i64 db,.string sb,.slice ob lb cb]] w fun e w'=>e=.returned (.tuple #[leafV 0 x y,.int .i64 z])∧Below w.heap.size w w':=by
 have HQ:=Lib.hid (fun W=>mul_to na da nb db x y z (by simpa[Prims.step] using hq) h0 h1 h2 h3 h4 h5 h6 h7 W)
 clear hq
 have HK:=Lib.hid (fun X Y Z=>(((Below.refl w.heap.size w).alloc (Nat.le_refl _) X).alloc (by simp) Y).alloc (by simp;omega) Z)
 have HX:=Lib.hid (fun X Y=>(show Box5 (((w.alloc X).alloc Y).alloc (.cells #[.int .i64 0,.int .i64 0,.int .i64 0,.string ⟨#[]⟩,.slice none 0 0] 45)) (w.heap.size+2) 45 (.int .i64 0) (.int .i64 0) (.int .i64 0) (.string ⟨#[]⟩) (.slice none 0 0) by
  have:=Box5.new ((w.alloc X).alloc Y) 45 (.int .i64 0) (.int .i64 0) (.int .i64 0) (.string ⟨#[]⟩) (.slice none 0 0)
  rwa[World.size_alloc,World.size_alloc] at this))
 go_enter Tryz.func141,Tryz.ntmps141
 go_wp2_with fail
 refine (HQ.out _).mono ?_
 rintro e1 w1 ⟨rfl,nk,hw1⟩
 have hb1:Below w.heap.size w w1:=by rw[hw1];exact Below.drewN (HK.out _ _ _) _
 have hbox:Box5 w1 (w.heap.size+2) 45 (.int .i64 0) (.int .i64 0) (.int .i64 0) (.string ⟨#[]⟩) (.slice none 0 0):=by rw[hw1];exact ((Below.selfN _ _).block _ (by simp)).trans (HX.out _ _)
 clear hw1
 obtain ⟨q0,q1,q2,q3,q4⟩:=hbox.cells
 obtain ⟨z0,z1,z2,z3,z4⟩:=hbox.free
 have hlt:=hbox.lt
 have HB:=Lib.hid hb1
 obtain ⟨r0,r1,r2,r3,r4⟩:=(hbox.set (.int .i64 0) (.int .i64 x) (.int .i64 y) (.string ⟨#[]⟩) (.slice none 0 0)).cells
 go_wp2_with fail
 exact bodyPost_ret (v:=.tuple #[leafV 0 x y,.int .i64 z]) (by simp[results,Tryz.results141,go_sem,leafV,r0,r1,r2,r3,r4]) rfl ⟨rfl,HB.out.trans (set5_below w1 (w.heap.size+2) w.heap.size _ _ _ _ _ (by omega))⟩
theorem step_3 (ka na da kb nb db:Int) (sa sb:ByteArray) (oa ob:Option Addr) (la ca lb cb:Nat) (x y z:Int) (hq:Prims.step 3 na da nb db=(x,y,z)) (h0:-9223372036854775808≤na) (h1:na≤9223372036854775807) (h2:-9223372036854775808≤da) (h3:da≤9223372036854775807) (h4:-9223372036854775808≤nb) (h5:nb≤9223372036854775807) (h6:-9223372036854775808≤db) (h7:db≤9223372036854775807) (w:World) :
  Calls Tryz.prog 141 #[.int .i64 3,.agg #[.int .i64 ka,.int .i64 na,.int .i64 da,.string sa,.slice oa la ca],.agg #[.int .i64 kb,.int .i64 nb,.int .i64 db,.string sb,.slice ob lb cb]] w fun e w'=>e=.returned (.tuple #[leafV 0 x y,.int .i64 z])∧Below w.heap.size w w':=by
 have HQ:=Lib.hid (fun W=>div_to na da nb db x y z (by simpa[Prims.step] using hq) h0 h1 h2 h3 h4 h5 h6 h7 W)
 clear hq
 have HK:=Lib.hid (fun X Y Z=>(((Below.refl w.heap.size w).alloc (Nat.le_refl _) X).alloc (by simp) Y).alloc (by simp;omega) Z)
 have HX:=Lib.hid (fun X Y=>(show Box5 (((w.alloc X).alloc Y).alloc (.cells #[.int .i64 0,.int .i64 0,.int .i64 0,.string ⟨#[]⟩,.slice none 0 0] 45)) (w.heap.size+2) 45 (.int .i64 0) (.int .i64 0) (.int .i64 0) (.string ⟨#[]⟩) (.slice none 0 0) by
  have:=Box5.new ((w.alloc X).alloc Y) 45 (.int .i64 0) (.int .i64 0) (.int .i64 0) (.string ⟨#[]⟩) (.slice none 0 0)
  rwa[World.size_alloc,World.size_alloc] at this))
 go_enter Tryz.func141,Tryz.ntmps141
 go_wp2_with fail
 refine (HQ.out _).mono ?_
 rintro e1 w1 ⟨rfl,nk,hw1⟩
 have hb1:Below w.heap.size w w1:=by rw[hw1];exact Below.drewN (HK.out _ _ _) _
 have hbox:Box5 w1 (w.heap.size+2) 45 (.int .i64 0) (.int .i64 0) (.int .i64 0) (.string ⟨#[]⟩) (.slice none 0 0):=by rw[hw1];exact ((Below.selfN _ _).block _ (by simp)).trans (HX.out _ _)
 clear hw1
 obtain ⟨q0,q1,q2,q3,q4⟩:=hbox.cells
 obtain ⟨z0,z1,z2,z3,z4⟩:=hbox.free
 have hlt:=hbox.lt
 have HB:=Lib.hid hb1
 obtain ⟨r0,r1,r2,r3,r4⟩:=(hbox.set (.int .i64 0) (.int .i64 x) (.int .i64 y) (.string ⟨#[]⟩) (.slice none 0 0)).cells
 go_wp2_with fail
 exact bodyPost_ret (v:=.tuple #[leafV 0 x y,.int .i64 z]) (by simp[results,Tryz.results141,go_sem,leafV,r0,r1,r2,r3,r4]) rfl ⟨rfl,HB.out.trans (set5_below w1 (w.heap.size+2) w.heap.size _ _ _ _ _ (by omega))⟩
theorem fold1_any (x:Dat) (v:Value) (B:Nat) (w:World) (hv:RepD w B x v) (hB:B≤w.heap.size) :
  Calls Tryz.prog 98 #[v] w fun e w'=>e=.returned (.bool (!Dat.right x 0))∧Below w.heap.size w w':=by
 obtain ⟨k,n,d,s,o,len,cap,rfl⟩:=agg_of hv
 obtain ⟨r,hr⟩:∃r,Dat.right x 0=r:=⟨_,rfl⟩
 rw[hr]
 have HC:=Lib.hid (fun W (hb:Below w.heap.size w W)=>dright_any x _ B W (hv.kept (hb.mono hB)) (Nat.le_trans hB hb.size))
 rw[hr] at HC
 clear hr hv
 have HK:=Lib.hid (fun X=>(Below.refl w.heap.size w).alloc (Nat.le_refl _) X)
 go_enter Tryz.func98,Tryz.ntmps98
 go_wp2_with fail
 refine (HC.out _ (HK.out _)).mono ?_
 rintro e1 w1 ⟨rfl,hb1⟩
 go_wp2_with fail
 go_ret
 exact ⟨rfl,one_below hb1⟩
theorem sums1_any (k n d:Int) (s:ByteArray) (o:Option Addr) (len cap:Nat) (w:World) :
  Calls Tryz.prog 140 #[.agg #[.int .i64 k,.int .i64 n,.int .i64 d,.string s,.slice o len cap]] w fun e w'=>e=.returned (.bool (k != 0))∧Below w.heap.size w w':=by
 have HK:=Lib.hid (fun X=>(Below.refl w.heap.size w).alloc (Nat.le_refl _) X)
 go_enter Tryz.func140,Tryz.ntmps140
 go_wp2_with fail
 go_ret
 exact ⟨rfl,HK.out _⟩
end
section
open Go Go.RowKit
def FndPost (n:Nat) (St:Nat→World→Prop) (Bad:World→Prop) (e:Ending) (w':World):Prop:=∃c:Bool,e=.returned (.bool c)∧(c=true→Bad w')∧(c=false→St n w')
def FndIdx (n:Nat) (St:Nat→World→Prop) (Bad:World→Prop) (e:Ending) (w':World):Prop:=∃j:Int,e=.returned (.int .i64 j)∧(0≤j→Bad w')∧(¬0≤j→St n w')
theorem indexT_S (F:FuncId) (caps:Array Value) (l:List Trm) (sl:Value) (B:Nat) (w:World) (St:Nat→World→Prop) (Bad:World→Prop) (hv:TrmS w B l sl)
  (hF:∀(args:Array Value) (w:World),(callFunc F args).run Tryz.prog w=.ok (.enter F args) w)
  (hB:∀j W,St j W→Below B w W)
  (h0:St 0 w)
  (H:∀(j:Nat) x,l[j]?=some x→∀c0 c1 c2 c3 W,TrmR W B x [c0,c1,c2,c3]→St j W→Calls Tryz.prog F (#[.agg #[c0,c1,c2,c3]]++caps) W fun e W'=>∃c:Bool,e=.returned (.bool c)∧(c=true→Bad W')∧(c=false→St (j+1) W')) :
  Calls Tryz.prog 94 #[sl,.func (.func F) #[] caps] w (FndIdx l.length St Bad):=by
 obtain ⟨o,len,cap,rfl,hl,hcap,hmax⟩:=SlC.slice hv
 have HV:=Lib.hid hv
 have HL:=Lib.hid hl
 have HH:=Lib.hid H
 have HS:=Lib.hid h0
 have HBB:=Lib.hid hB
 clear hv hl H h0 hB
 go_enter Tryz.func94,Tryz.ntmps94
 go_wp2
 go_loopg [8] len (fun g i wr=>∃(j:Nat),g=len-j∧i=.int .i64 j∧j≤len∧Hid (St j wr))
 case atStart=>exact ⟨0,rfl,rfl,by omega,HS⟩
 case round=>
  obtain ⟨j,rfl,rfl,hj,HA⟩:=hrel
  by_cases hjl:j<len
  ·obtain ⟨x,hx⟩:∃x,l[j]?=some x:=⟨_,List.getElem?_eq_getElem (by rw[←HL.out];exact hjl)⟩
   have hbw:=HBB.out j wr HA.out
   obtain ⟨b,off,cs,ho,_,hcl,hcell,hr⟩:=SlC.at HV.out hbw hx
   subst ho
   match cs,hcl with
   | [c0,c1,c2,c3],_=>
    have e0:=hcell 0 _ rfl
    have e1:=hcell 1 _ rfl
    have e2:=hcell 2 _ rfl
    have e3:=hcell 3 _ rfl
    simp only[Nat.add_zero] at e0
    have HC:=Lib.hid (HH.out j x hx _ _ _ _ wr (TrmR.kept hbw _ _ hr) HA.out)
    clear hx hr hcell hbw
    go_wp2_with fail
    refine HC.out.mono ?_
    rintro e' w1 ⟨c,rfl,h1,h2⟩
    have HT:=Lib.hid h1
    have HST:=Lib.hid h2
    clear h1 h2
    cases c with
    | true=>
     go_wp2_with fail
     go_ret
     exact ⟨j,rfl,fun _=>HT.out trivial,fun h=>absurd (by omega) h⟩
    | false=>
     go_wp2_with fail
     go_roundg (len-(j+1))
     case measure=>omega
     case rel=>exact ⟨j+1,rfl,by go_num,by omega,Lib.hid (HST.out trivial)⟩
  ·obtain rfl:j=len:=by omega
   go_wp2
   go_ret
   exact ⟨-1,rfl,fun h=>by omega,fun _=>by rw[←HL.out];exact HA.out⟩
theorem containsT_S (F:FuncId) (caps:Array Value) (l:List Trm) (sl:Value) (B:Nat) (w:World) (St:Nat→World→Prop) (Bad:World→Prop) (hv:TrmS w B l sl)
  (hF:∀(args:Array Value) (w:World),(callFunc F args).run Tryz.prog w=.ok (.enter F args) w)
  (hB:∀j W,St j W→Below B w W)
  (h0:St 0 w)
  (H:∀(j:Nat) x,l[j]?=some x→∀c0 c1 c2 c3 W,TrmR W B x [c0,c1,c2,c3]→St j W→Calls Tryz.prog F (#[.agg #[c0,c1,c2,c3]]++caps) W fun e W'=>∃c:Bool,e=.returned (.bool c)∧(c=true→Bad W')∧(c=false→St (j+1) W')) :
  Calls Tryz.prog 66 #[sl,.func (.func F) #[] caps] w (FndPost l.length St Bad):=by
 have HI:=Lib.hid (indexT_S F caps l sl B w St Bad hv hF hB h0 H)
 obtain ⟨o,len,cap,rfl,h1,h2,h3⟩:=SlC.slice hv
 clear hv H hF h1 h2 h3 hB h0
 go_enter Tryz.func66,Tryz.ntmps66
 go_wp2_with fail
 refine HI.out.mono ?_
 rintro e' w1 ⟨j,rfl,h1,h2⟩
 have H1:=Lib.hid h1
 have H2:=Lib.hid h2
 clear h1 h2
 by_cases hj:0≤j
 ·go_wp2_with fail
  go_ret
  refine ⟨true,by simp,fun _=>H1.out hj,fun h=>?_⟩
  cases h
 ·have f0:decide (0≤j)=false:=decide_eq_false hj
  go_wp2_with fail
  go_ret
  refine ⟨false,by simp,fun h=>?_,fun _=>H2.out hj⟩
  cases h
end
section
open Go Go.RowKit
theorem shape_0 (w:World):Calls Tryz.prog 61 #[.int .i64 0] w fun e w'=>e=.returned (.tuple #[.agg #[.int .i64 0,.int .i64 3,.int .i64 0,.bool false,.bool false],.bool true])∧Below w.heap.size w w':=by
 go_enter Tryz.func61,Tryz.ntmps61
 go_wp2_with fail
 exact bodyPost_ret (v:=.tuple #[.agg #[.int .i64 0,.int .i64 3,.int .i64 0,.bool false,.bool false],.bool true]) (by simp[results,Tryz.results61,go_sem]) rfl ⟨rfl,Below.one _ _⟩
theorem shape_1 (w:World):Calls Tryz.prog 61 #[.int .i64 1] w fun e w'=>e=.returned (.tuple #[.agg #[.int .i64 0,.int .i64 3,.int .i64 0,.bool false,.bool false],.bool true])∧Below w.heap.size w w':=by
 go_enter Tryz.func61,Tryz.ntmps61
 go_wp2_with fail
 exact bodyPost_ret (v:=.tuple #[.agg #[.int .i64 0,.int .i64 3,.int .i64 0,.bool false,.bool false],.bool true]) (by simp[results,Tryz.results61,go_sem]) rfl ⟨rfl,Below.one _ _⟩
theorem shape_2 (w:World):Calls Tryz.prog 61 #[.int .i64 2] w fun e w'=>e=.returned (.tuple #[.agg #[.int .i64 0,.int .i64 1,.int .i64 1,.bool false,.bool false],.bool true])∧Below w.heap.size w w':=by
 go_enter Tryz.func61,Tryz.ntmps61
 go_wp2_with fail
 exact bodyPost_ret (v:=.tuple #[.agg #[.int .i64 0,.int .i64 1,.int .i64 1,.bool false,.bool false],.bool true]) (by simp[results,Tryz.results61,go_sem]) rfl ⟨rfl,Below.one _ _⟩
theorem shape_3 (w:World):Calls Tryz.prog 61 #[.int .i64 3] w fun e w'=>e=.returned (.tuple #[.agg #[.int .i64 0,.int .i64 3,.int .i64 3,.bool false,.bool false],.bool true])∧Below w.heap.size w w':=by
 go_enter Tryz.func61,Tryz.ntmps61
 go_wp2_with fail
 exact bodyPost_ret (v:=.tuple #[.agg #[.int .i64 0,.int .i64 3,.int .i64 3,.bool false,.bool false],.bool true]) (by simp[results,Tryz.results61,go_sem]) rfl ⟨rfl,Below.one _ _⟩
theorem shape_4 (w:World):Calls Tryz.prog 61 #[.int .i64 4] w fun e w'=>e=.returned (.tuple #[.agg #[.int .i64 0,.int .i64 2,.int .i64 1,.bool false,.bool true],.bool true])∧Below w.heap.size w w':=by
 go_enter Tryz.func61,Tryz.ntmps61
 go_wp2_with fail
 exact bodyPost_ret (v:=.tuple #[.agg #[.int .i64 0,.int .i64 2,.int .i64 1,.bool false,.bool true],.bool true]) (by simp[results,Tryz.results61,go_sem]) rfl ⟨rfl,Below.one _ _⟩
theorem shape_5 (w:World):Calls Tryz.prog 61 #[.int .i64 5] w fun e w'=>e=.returned (.tuple #[.agg #[.int .i64 0,.int .i64 3,.int .i64 1,.bool true,.bool false],.bool true])∧Below w.heap.size w w':=by
 go_enter Tryz.func61,Tryz.ntmps61
 go_wp2_with fail
 exact bodyPost_ret (v:=.tuple #[.agg #[.int .i64 0,.int .i64 3,.int .i64 1,.bool true,.bool false],.bool true]) (by simp[results,Tryz.results61,go_sem]) rfl ⟨rfl,Below.one _ _⟩
theorem shape_6 (w:World):Calls Tryz.prog 61 #[.int .i64 6] w fun e w'=>e=.returned (.tuple #[.agg #[.int .i64 0,.int .i64 3,.int .i64 1,.bool true,.bool false],.bool true])∧Below w.heap.size w w':=by
 go_enter Tryz.func61,Tryz.ntmps61
 go_wp2_with fail
 exact bodyPost_ret (v:=.tuple #[.agg #[.int .i64 0,.int .i64 3,.int .i64 1,.bool true,.bool false],.bool true]) (by simp[results,Tryz.results61,go_sem]) rfl ⟨rfl,Below.one _ _⟩
theorem shape_11 (w:World):Calls Tryz.prog 61 #[.int .i64 11] w fun e w'=>e=.returned (.tuple #[.agg #[.int .i64 0,.int .i64 3,.int .i64 0,.bool false,.bool false],.bool true])∧Below w.heap.size w w':=by
 go_enter Tryz.func61,Tryz.ntmps61
 go_wp2_with fail
 exact bodyPost_ret (v:=.tuple #[.agg #[.int .i64 0,.int .i64 3,.int .i64 0,.bool false,.bool false],.bool true]) (by simp[results,Tryz.results61,go_sem]) rfl ⟨rfl,Below.one _ _⟩
end
end Go.Proofs.YtgbibibmpoekiaaGreatDoor
