/-
  What the proofs lean on: GrD, Fd4, Fd7, Fd2, MapT, RgT.
-/
import Derived.Deep.AppendLies
import Derived.RangeFuncNested
import Derived.RangeFuncLeaves
import Derived.RangeFuncCalls
import Derived.Test.YtgbibibmpoekiaaGreatDoorShfA11
import Derived.Test.YtgbibibmpoekiaaGreatDoorShfA12
import Derived.Test.YtgbibibmpoekiaaGreatDoorShfA13
set_option maxRecDepth 100000
set_option maxHeartbeats 16000000
namespace Go.Proofs.YtgbibibmpoekiaaGreatDoor
section
open Go Go.RowKit
theorem repC_row {w:World} {B b:Nat}:∀(l:List Dat) (off:Nat),RepC w B l b off→∃xs,CellsD w B l xs∧∀j u,xs[j]?=some u→w.cell? ⟨b,off+j,none⟩=some u
 | [],_,_=>⟨[],rfl,fun j u h=>by simp at h⟩
 | x::l,off,h=>by
  rw[RepC] at h
  obtain ⟨⟨c0,c1,c2,c3,c4,h0,h1,h2,h3,h4,h5⟩,h6⟩:=h
  obtain ⟨xs,k1,k2⟩:=repC_row l (off+5) h6
  refine ⟨c0::c1::c2::c3::c4::xs,⟨c0,c1,c2,c3,c4,xs,rfl,h5,k1⟩,fun j u hj=>?_⟩
  match j,hj with
  | 0,hj=>simp at hj;rw[←hj];exact h0
  | 1,hj=>simp at hj;rw[←hj];exact h1
  | 2,hj=>simp at hj;rw[←hj];exact h2
  | 3,hj=>simp at hj;rw[←hj];exact h3
  | 4,hj=>simp at hj;rw[←hj];exact h4
  | j+5,hj=>
   simp only[List.getElem?_cons_succ] at hj
   rw[show off+(j+5)=off+5+j from by omega]
   exact k2 j u hj
theorem cellsD_append {w:World} {B:Nat}:∀{l k:List Dat} {xs ys:List Value},CellsD w B l xs→CellsD w B k ys→CellsD w B (l++k) (xs++ys)
 | [],_,xs,_,h,h'=>by
  obtain rfl:xs=[]:=h
  exact h'
 | x::l,_,xs,_,h,h'=>by
  obtain ⟨c0,c1,c2,c3,c4,xs',rfl,hx,h2⟩:=h
  exact ⟨c0,c1,c2,c3,c4,_,rfl,hx,cellsD_append h2 h'⟩
theorem hide_below {W w':World} {S:Nat→Prop} {B:Nat} (h:Below B W w'):Below B (hide W S) (hide w' S):=by
 refine ⟨h.os,h.tape,h.output,by rw[hide_size,hide_size];exact h.size,fun c hc=>?_⟩
 have hb:=h.block c hc
 simp only[hide,Array.getElem?_mapIdx,hb]
theorem ownsRow_laid {W:World} (e:TypeId) (size n:Nat) (cs:List Value) (hl:cs.length=n*size) (hn:n≤maxLen):(W.alloc (.cells cs.toArray e)).ownsRow W.heap.size e size (.slice (some ⟨W.heap.size,0,none⟩) n n) n cs:=by
 refine ⟨hl,.inr ⟨W.heap.size,n,cs.toArray,rfl,Nat.le_refl _,World.alloc_heap_new W _,Nat.le_refl _,hn,by simpa using hl,?_⟩⟩
 rw[List.take_of_length_le (by simp[hl])]
def SR (S:Nat→Prop) (v:Value) (b:Nat):Prop:=S b∨v.ownBlock=some b
def GrownS (W:World) (S:Nat→Prop) (base:Nat) (l:List Dat) (v:Value):Prop:=(∀b,S b→b<W.heap.size)∧(∀g,v.ownBlock=some g→¬S g)∧base≤W.heap.size∧∃xs,W.ownsRow base 45 5 v l.length xs∧CellsD (hide W (SR S v)) W.heap.size l xs
theorem GrownS.nil (W:World) {S:Nat→Prop} {base:Nat} (hS:∀b,S b→b<W.heap.size) (hb:base≤W.heap.size):GrownS W S base [] (.slice none 0 0):=⟨hS,fun _ h=>by simp[Value.ownBlock] at h,hb,[],World.ownsRow_nil _ _ _ _,rfl⟩
theorem GrownS.block {W:World} {S:Nat→Prop} {base:Nat} {l:List Dat} {v:Value} (h:GrownS W S base l v) {g:Nat} (hg:v.ownBlock=some g):base≤g∧g<W.heap.size:=by
 obtain ⟨_,_,_,xs,h1,_⟩:=h
 exact h1.lt g hg
theorem GrownS.apart {W:World} {S:Nat→Prop} {base:Nat} {l:List Dat} {v:Value} (h:GrownS W S base l v):∀g,v.ownBlock=some g→¬S g:=h.2.1
theorem GrownS.form {W:World} {S:Nat→Prop} {base:Nat} {l:List Dat} {v:Value} (h:GrownS W S base l v):∃o len cap,v=.slice o len cap∧len≤cap∧len=l.length:=by
 obtain ⟨_,_,_,xs,h1,_⟩:=h
 rcases h1.2 with ⟨hv,h0⟩ | ⟨g,cap,cur,hv,_,_,h2,_⟩
 ·exact ⟨_,_,_,hv,Nat.le_refl _,h0.symm⟩
 ·exact ⟨_,_,_,hv,h2,rfl⟩
theorem GrownS.turned {T:Nat→Prop} {W W':World} {S:Nat→Prop} {base:Nat} {l:List Dat} {v:Value} (h:GrownS W S base l v) (ht:Turned T W W') (hT:∀b,b<W.heap.size→T b→S b):GrownS W' S base l v:=by
 obtain ⟨h0,hap,h00,xs,h1,h2⟩:=h
 refine ⟨fun b hb=>Nat.lt_of_lt_of_le (h0 b hb) ht.size,hap,Nat.le_trans h00 ht.size,xs,?_,h2.shown (Shown.turned ht fun b hb hs=>.inl (hT b hb hs)) ht.size⟩
 refine ⟨h1.1,?_⟩
 rcases h1.2 with h' | ⟨g,cap,cur,rfl,k2,k3,k4⟩
 ·exact .inl h'
 ·refine .inr ⟨g,cap,cur,rfl,k2,?_,k4⟩
  have hlt:=(h1.lt g rfl).2
  exact (ht.block g hlt fun hs=>hap g rfl (hT g hlt hs)).trans k3
theorem GrownS.below {W W':World} {S:Nat→Prop} {base:Nat} {l:List Dat} {v:Value} (h:GrownS W S base l v) (hb:Below W.heap.size W W'):GrownS W' S base l v:=
 h.turned (T:=fun _=>False) (Turned.of_below hb) fun _ _ h=>h.elim
theorem GrownS.rep {W:World} {S:Nat→Prop} {base:Nat} {l:List Dat} {v:Value} (h:GrownS W S base l v):RepS (hide W S) W.heap.size l v:=by
 obtain ⟨h0,hap,h00,xs,h1,h2⟩:=h
 have:=repS_of_row (w:=hide W S) (B:=W.heap.size) (row_hide h1 hap) (h2.shown (Shown.less W fun b _ hb=>.inl hb) (Nat.le_refl _)) (by rw[hide_size];exact Nat.le_refl _)
 rwa[hide_size] at this
theorem wp_growS {W:World} {S:Nat→Prop} {o:Oper} {a:Act} {K:Act→World→Prop} {Q:Exit→Act→World→Prop} (s x:Operand)
  (ho:o.op=.call { callee:=.builtin .append,args:=#[s,x],argTypes:=#[22,22] }) (base:Nat) (v xv:Value) (l k:List Dat) (hs:a.eval s=v) (hg:Hid (GrownS W S base l v)) (hx:a.eval x=xv) (hk:Hid (RepS (hide W (SR S v)) W.heap.size k xv))
  (hm:l.length+k.length≤1000000)
  (h:∀o' len' cap' w',Hid (GrownS w' S base (l++k) (.slice o' len' cap'))→Hid (Below base W w')→Hid (Turned (fun b=>v.ownBlock=some b) W w')→Hid (Shown W (SR S v) w' (SR S (.slice o' len' cap')))→K (a.put o.dst (.slice o' len' cap')) w') :
  o.wp Tryz.prog a W K Q:=by
 obtain ⟨hS,hap,hb,xs,h1,h2⟩:=hg.out
 obtain ⟨ox,lenx,capx,rfl,hlx,hcx,hmx,hrx⟩:=hk.out
 obtain ⟨i0,hi,hz0,hz1,hz2⟩:=info_parts info_datum
 cases k with
 | nil=>
  obtain ⟨ov,lenv,capv,rfl,hlc,hlv⟩:=GrownS.form hg.out
  have h0:lenx=0:=by simpa using hlx
  subst h0
  have hr:∀ty,(Builtin.append_ #[22,22] ty #[.slice ov lenv capv,.slice ox 0 capx]).run Tryz.prog W=.ok (.slice ov lenv capv) W:=fun ty=>by
   have hle:lenv+0≤capv:=by omega
   cases ov<;>cases ox<;>simp[go_sem,Builtin.append_,hlc,Builtin.firstCells,storeCells,Builtin.lenOf]
  unfold Oper.wp execOp
  simp only[ho,resolve,invoke,builtin,Sem.run_bind,Sem.run_pure,Result.andThen_ok,List.map_toArray,List.map_cons,List.map_nil,hs,hx,hr]
  exact h _ _ _ _ (by rw[List.append_nil];exact hg) (Lib.hid (Below.refl _ _)) (Lib.hid (Turned.refl _ _)) (Lib.hid (Shown.less W fun _ _ h=>h))
 | cons y k=>
  cases ox with
  | none=>exact absurd hrx.1 (by simp)
  | some ad=>
   obtain ⟨hsp,hblk⟩:=hrx.1 (by simp)
   obtain ⟨blk,off,sp⟩:=ad
   obtain rfl:sp=none:=hsp
   obtain ⟨ys,k1,k2⟩:=repC_row _ _ hrx.2
   refine wp_append_lies W s x 22 ho base 45 i0 (.agg #[.int .i64 0,.int .i64 0,.int .i64 0,.string ⟨#[]⟩,.slice none 0 0]) 5 64 Tryz.underlying22 hi hz0 hz1 hz2 rfl (by decide) v l.length xs hs h1 ⟨blk,off,none⟩ lenx capx ys hx (by rw[k1.length,hlx]) (fun j u hu=>by have:=(hide_some (k2 j u hu)).2;rcases j with _ | j<;>simpa[Addr.add] using this) k1.oneCell (by rw[hlx];simp) (by rw[hlx];unfold maxLen;simp only[List.length_cons] at hm ⊢;omega) (by rw[hlx];omega) hb W.heap.size rfl ?_
   intro g cap w' m1 m2 m3 m4
   have ht:Turned (fun b=>v.ownBlock=some b) W w':=Turned.grown m2 fun b hb=>hb
   have hbl:Below base W w':=by
    refine ⟨m2.os,m2.tape,m2.output,m2.size,fun c hc=>m2.block c (by omega) fun e=>?_⟩
    have:=(h1.lt c e.symm).1
    omega
   have sh:Shown W (SR S v) w' (SR S (.slice (some ⟨g,0,none⟩) (l.length+lenx) cap)):=by
    intro c o' u hc hu
    have hlt:=cell_lt hu
    refine ⟨fun hs'=>?_,(Shown.turned (S:=SR S v) ht (fun b _ hb=>.inr hb) c o' u hc hu).2⟩
    rcases hs' with hs' | hs'
    ·exact hc (.inl hs')
    ·simp only[Value.ownBlock,Option.some.injEq] at hs'
     subst hs'
     rcases m3 with m3 | m3
     ·exact hc (.inr m3)
     ·omega
   refine h _ _ _ _ (Lib.hid ⟨fun b hb=>Nat.lt_of_lt_of_le (hS b hb) m2.size,fun c hc hs=>?_,Nat.le_trans hb m2.size,xs++ys,?_,?_⟩) (Lib.hid hbl) (Lib.hid ht) (Lib.hid sh)
   ·simp only[Value.ownBlock,Option.some.injEq] at hc
    subst hc
    rcases m3 with m3 | m3
    ·exact hap _ m3 hs
    ·have:=hS _ hs
     omega
   ·rw[List.length_append,←hlx];exact m1
   ·exact cellsD_append (h2.shown sh m2.size) (k1.shown sh m2.size)
theorem sr_lt {W:World} {S:Nat→Prop} {base:Nat} {l:List Dat} {v:Value} (h:GrownS W S base l v) {n:Nat} (hn:W.heap.size≤n):∀b,SR S v b→b<n:=fun b hb=>hb.elim (fun hb=>by have:=h.1 b hb;omega) fun hb=>Nat.lt_of_lt_of_le (h.block hb).2 hn
theorem GrownS.less {W:World} {S S':Nat→Prop} {base base':Nat} {l:List Dat} {v:Value} (h:GrownS W S' base' l v) (hs:∀b,S b→S' b) (hb:base≤base'):GrownS W S base l v:=by
 obtain ⟨h0,hap,h00,xs,h1,h2⟩:=h
 refine ⟨fun b h=>h0 b (hs b h),fun g hg h=>hap g hg (hs g h),Nat.le_trans hb h00,xs,⟨h1.1,?_⟩,h2.shown (Shown.less W fun b _ h=>h.elim (fun h=>.inl (hs b h)) .inr) (Nat.le_refl _)⟩
 rcases h1.2 with h' | ⟨g,cap,cur,k1,k2,k3⟩
 ·exact .inl h'
 ·exact .inr ⟨g,cap,cur,k1,Nat.le_trans hb k2,k3⟩
theorem GrownS.rehide {W W':World} {S S':Nat→Prop} {base:Nat} {l:List Dat} {v:Value} (h:GrownS W S base l v) (hz:W.heap.size≤W'.heap.size) (hS':∀b,S' b→b<W'.heap.size) (hap:∀g,v.ownBlock=some g→¬S' g) (hblk:∀g,v.ownBlock=some g→W'.heap[g]?=W.heap[g]?) (hs:Shown W (SR S v) W' (SR S' v)):GrownS W' S' base l v:=by
 obtain ⟨h0,_,h00,xs,h1,h2⟩:=h
 refine ⟨hS',hap,Nat.le_trans h00 hz,xs,⟨h1.1,?_⟩,h2.shown hs hz⟩
 rcases h1.2 with h' | ⟨g,cap,cur,rfl,k2,k3,k4⟩
 ·exact .inl h'
 ·exact .inr ⟨g,cap,cur,rfl,k2,(hblk g rfl).trans k3,k4⟩
theorem cellsD_nth {w:World} {B:Nat}:∀{l:List Dat} {xs:List Value} {j:Nat} {x:Dat},CellsD w B l xs→l[j]?=some x→∃c0 c1 c2 c3 c4,xs[j*5]?=some c0∧xs[j*5+1]?=some c1∧xs[j*5+2]?=some c2∧xs[j*5+3]?=some c3∧xs[j*5+4]?=some c4∧RepD w B x (.agg #[c0,c1,c2,c3,c4])
 | [],xs,j,x,_,hx=>by simp at hx
 | y::l,xs,0,x,h,hx=>by
  obtain ⟨c0,c1,c2,c3,c4,r,rfl,hr,_⟩:=h
  obtain rfl:y=x:=by simpa using hx
  exact ⟨c0,c1,c2,c3,c4,rfl,rfl,rfl,rfl,rfl,hr⟩
 | y::l,xs,j+1,x,h,hx=>by
  obtain ⟨c0,c1,c2,c3,c4,r,rfl,_,h2⟩:=h
  rw[List.getElem?_cons_succ] at hx
  obtain ⟨d0,d1,d2,d3,d4,e0,e1,e2,e3,e4,hr⟩:=cellsD_nth h2 hx
  have key:∀i,(c0::c1::c2::c3::c4::r)[(j+1)*5+i]?=r[j*5+i]?:=fun i=>by
   rw[show (j+1)*5+i=(j*5+i)+5 by omega]
   rfl
  exact ⟨d0,d1,d2,d3,d4,(key 0).trans e0,(key 1).trans e1,(key 2).trans e2,(key 3).trans e3,(key 4).trans e4,hr⟩
theorem GrownS.elem {W:World} {S:Nat→Prop} {base:Nat} {l:List Dat} {o:Option Addr} {len cap j:Nat} {x:Dat} (h:GrownS W S base l (.slice o len cap)) (hx:l[j]?=some x):∃(g:Nat) (k n d:Int) (s:ByteArray) (p:Option Addr) (ln cp:Nat),o=some ⟨g,0,none⟩∧W.cell? ⟨g,j*5,none⟩=some (.int .i64 k)∧W.cell? ⟨g,j*5+1,none⟩=some (.int .i64 n)∧W.cell? ⟨g,j*5+2,none⟩=some (.int .i64 d)∧W.cell? ⟨g,j*5+3,none⟩=some (.string s)∧W.cell? ⟨g,j*5+4,none⟩=some (.slice p ln cp)∧RepD (hide W (SR S (.slice o len cap))) W.heap.size x (.agg #[.int .i64 k,.int .i64 n,.int .i64 d,.string s,.slice p ln cp]):=by
 obtain ⟨h0,hap,h00,xs,h1,h2⟩:=h
 obtain ⟨c0,c1,c2,c3,c4,e0,e1,e2,e3,e4,hr⟩:=cellsD_nth h2 hx
 obtain ⟨k,n,d,s,p,ln,cp,he⟩:=agg_of hr
 simp only[Value.agg.injEq,Array.mk.injEq,List.cons.injEq,and_true] at he
 obtain ⟨rfl,rfl,rfl,rfl,rfl⟩:=he
 have hj:j<l.length:=(List.getElem?_eq_some_iff.1 hx).1
 rcases id h1.2 with ⟨_,h3⟩ | ⟨g,cap',cur,he,_⟩
 ·omega
 ·simp only[Value.slice.injEq] at he
  obtain ⟨rfl,rfl,rfl⟩:=he
  have key:∀i,i<l.length*5→W.cell? ⟨g,i,none⟩=xs[i]?:=fun i hi=>World.ownsRow.cellAt h1 i hi
  exact ⟨g,k,n,d,s,p,ln,cp,rfl,(key _ (by omega)).trans e0,(key _ (by omega)).trans e1,(key _ (by omega)).trans e2,(key _ (by omega)).trans e3,(key _ (by omega)).trans e4,hr⟩
theorem GrownS.one {W:World} {S:Nat→Prop} {x:Dat} {c0 c1 c2 c3 c4:Value} (hS:∀b,S b→b<W.heap.size) (hx:RepD (hide W S) W.heap.size x (.agg #[c0,c1,c2,c3,c4])):GrownS (W.alloc (.cells #[c0,c1,c2,c3,c4] 45)) S W.heap.size [x] (.slice (some ⟨W.heap.size,0,none⟩) 1 1):=by
 have hone:Below W.heap.size W (W.alloc (.cells #[c0,c1,c2,c3,c4] 45)):=Below.one _ _
 refine ⟨fun b hb=>Nat.lt_of_lt_of_le (hS b hb) hone.size,fun g hg hs=>?_,hone.size,[c0,c1,c2,c3,c4],?_,c0,c1,c2,c3,c4,[],rfl,?_,rfl⟩
 ·simp only[Value.ownBlock,Option.some.injEq] at hg
  subst hg
  have:=hS _ hs
  omega
 ·exact ownsRow_laid 45 5 1 [c0,c1,c2,c3,c4] rfl (by decide)
 ·refine hx.shown (fun c o u hc hu=>?_) hone.size
  have hcl:=cell_lt hu
  refine ⟨fun hs=>hs.elim hc fun hs=>?_,(hone.cell (p:=⟨c,o,none⟩) hcl).trans hu⟩
  simp only[Value.ownBlock,Option.some.injEq] at hs
  omega
end
section
open Go Go.RowKit
namespace Fd
open Trm
mutual
def Sim (Q:Int→Int→Prop) (r:Int→Int):Trm→Trm→Prop
 | mk o n v t,mk o' n' v' t'=>o'=o∧(o=0→Q n n')∧(o≠0→n'=if o=1∨o=2∨o=14 then r n else n)∧v'=v.map r∧SimL Q r t t'
def SimL (Q:Int→Int→Prop) (r:Int→Int):List Trm→List Trm→Prop
 | [],l=>l=[]
 | x::l,m=>∃y k,m=y::k∧Sim Q r x y∧SimL Q r l k
end
variable {Q : Int → Int → Prop} {r : Int → Int}
theorem Sim.open {x y:Trm} (h:Sim Q r x y):y.op=x.op∧(x.op=0→Q x.n y.n)∧(x.op≠0→y.n=if x.op=1∨x.op=2∨x.op=14 then r x.n else x.n)∧y.v=x.v.map r∧SimL Q r x.t y.t:=by
 obtain ⟨o,n,v,t⟩:=x
 obtain ⟨o',n',v',t'⟩:=y
 rw[Sim] at h
 exact h
theorem Sim.close {x y:Trm} (h0:y.op=x.op) (h1:x.op=0→Q x.n y.n) (h2:x.op≠0→y.n=if x.op=1∨x.op=2∨x.op=14 then r x.n else x.n) (h3:y.v=x.v.map r) (h4:SimL Q r x.t y.t):Sim Q r x y:=by
 obtain ⟨o,n,v,t⟩:=x
 obtain ⟨o',n',v',t'⟩:=y
 rw[Sim]
 exact ⟨h0,h1,h2,h3,h4⟩
theorem SimL.len:∀{l m:List Trm},SimL Q r l m→m.length=l.length
 | [],_,h=>by rw[SimL] at h;subst h;rfl
 | x::l,m,h=>by
  rw[SimL] at h
  obtain ⟨y,k,rfl,_,h⟩:=h
  rw[List.length_cons,List.length_cons,SimL.len h]
theorem SimL.app:∀{l m l' m':List Trm},SimL Q r l m→SimL Q r l' m'→SimL Q r (l++l') (m++m')
 | [],_,_,_,h,h'=>by rw[SimL] at h;subst h;exact h'
 | x::l,m,l',m',h,h'=>by
  rw[SimL] at h
  obtain ⟨y,k,rfl,h1,h2⟩:=h
  rw[List.cons_append,List.cons_append,SimL]
  exact ⟨y,_,rfl,h1,SimL.app h2 h'⟩
theorem SimL.cons {x y:Trm} {l m:List Trm} (h:Sim Q r x y) (h':SimL Q r l m):SimL Q r (x::l) (y::m):=by rw[SimL];exact ⟨y,m,rfl,h,h'⟩
theorem SimL.one {x y:Trm} (h:Sim Q r x y):SimL Q r [x] [y]:=SimL.cons h (by rw[SimL])
theorem SimL.none (m:List Trm) (h:SimL Q r [] m):m=[]:=by rw[SimL] at h;exact h
theorem SimL.uncons {x:Trm} {l m:List Trm} (h:SimL Q r (x::l) m):∃y k,m=y::k∧Sim Q r x y∧SimL Q r l k:=by rw[SimL] at h;exact h
theorem SimL.at:∀{l m:List Trm},SimL Q r l m→∀(i:Nat) (x:Trm),l[i]?=some x→∃y,m[i]?=some y∧Sim Q r x y
 | [],_,_,i,x,hx=>by simp at hx
 | z::l,m,h,i,x,hx=>by
  obtain ⟨y,k,rfl,h1,h2⟩:=h.uncons
  cases i with
  | zero=>simp only[List.getElem?_cons_zero,Option.some.injEq] at hx ⊢;subst hx;exact ⟨y,rfl,h1⟩
  | succ i=>simpa using SimL.at h2 i x (by simpa using hx)
theorem SimL.out {l m:List Trm} (h:SimL Q r l m) (i:Nat) (hx:l[i]?=Option.none):m[i]?=Option.none:=by
 rw[List.getElem?_eq_none_iff] at hx ⊢
 rw[h.len];exact hx
theorem sim_mono {Q':Int→Int→Prop} (hq:∀n m,Q n m→Q' n m):∀x y:Trm,Sim Q r x y→Sim Q' r x y:=by
 intro x
 induction x using Trm.ind with
 | h o n v t ih=>
  intro y h
  obtain ⟨h0,h1,h2,h3,h4⟩:=h.open
  refine Sim.close h0 (fun e=>hq _ _ (h1 e)) h2 h3 ?_
  have key:∀(l m:List Trm),(∀x∈l,∀y,Sim Q r x y→Sim Q' r x y)→SimL Q r l m→SimL Q' r l m:=fun l=>by
   induction l with
   | nil=>intro m _ h;rw[SimL] at h ⊢;exact h
   | cons x l ihl=>
    intro m hx h
    obtain ⟨y,k,rfl,g1,g2⟩:=h.uncons
    exact SimL.cons (hx x (by simp) y g1) (ihl k (fun z hz=>hx z (List.mem_cons_of_mem _ hz)) g2)
  exact key t y.t ih h4
theorem simL_mono {Q':Int→Int→Prop} (hq:∀n m,Q n m→Q' n m):∀l m:List Trm,SimL Q r l m→SimL Q' r l m
 | [],m,h=>by rw[SimL] at h ⊢;exact h
 | x::l,m,h=>by
  obtain ⟨y,k,rfl,g1,g2⟩:=h.uncons
  exact SimL.cons (sim_mono hq x y g1) (simL_mono hq l k g2)
theorem sim_idle {x y:Trm} (h:Sim Q r x y):idle y=idle x∧light y=light x∧value y=value x:=by
 obtain ⟨h0,_⟩:=h.open
 simp only[idle,light,value,h0,and_self]
theorem sim_named (hr:∀a b,r a=r b→a=b) (u:Int):∀x y:Trm,Sim Q r x y→named (r u) y=named u x:=by
 intro x
 induction x using Trm.ind with
 | h o n v t ih=>
  intro y h
  obtain ⟨o',n',v',t'⟩:=y
  obtain ⟨h0,h1,h2,h3,h4⟩:=h.open
  replace h0:o'=o:=h0
  subst h0
  have key:∀(l m:List Trm),(∀x∈l,∀y,Sim Q r x y→named (r u) y=named u x)→SimL Q r l m→namedL (r u) m=namedL u l:=fun l=>by
   induction l with
   | nil=>intro m _ h;rw[SimL] at h;subst h;rfl
   | cons x l ihl=>
    intro m hx h
    obtain ⟨y,k,rfl,g1,g2⟩:=h.uncons
    rw[namedL,namedL,hx x (by simp) y g1,ihl k (fun z hz=>hx z (List.mem_cons_of_mem _ hz)) g2]
  rw[named,named,key t t' ih h4]
  by_cases ho:o'=1
  ·subst ho
   have e:n'=r n:=h2 (by show (1:Int)≠0;decide)
   subst e
   have:(r n==r u)=(n==u):=by
    rw[Bool.eq_iff_iff,beq_iff_eq,beq_iff_eq]
    exact ⟨hr n u,fun e=>by rw[e]⟩
   rw[this]
  ·have e1:(o'==1)=false:=beq_eq_false_iff_ne.2 ho
   rw[e1];rfl
def SimB (Q:Int→Int→Prop) (r:Int→Int):List (Int × Trm)→List (Int × Trm)→Prop
 | [],l=>l=[]
 | p::l,m=>∃y k,m=(r p.1,y)::k∧Sim Q r p.2 y∧SimB Q r l k
theorem SimB.app:∀{b c b' c':List (Int × Trm)},SimB Q r b c→SimB Q r b' c'→SimB Q r (b++b') (c++c')
 | [],_,_,_,h,h'=>by rw[SimB] at h;subst h;exact h'
 | p::b,c,b',c',h,h'=>by
  rw[SimB] at h
  obtain ⟨y,k,rfl,h1,h2⟩:=h
  rw[List.cons_append,List.cons_append,SimB]
  exact ⟨y,_,rfl,h1,SimB.app h2 h'⟩
theorem SimB.rev:∀{b c:List (Int × Trm)},SimB Q r b c→SimB Q r b.reverse c.reverse
 | [],c,h=>by rw[SimB] at h;subst h;rw[List.reverse_nil,SimB]
 | p::b,c,h=>by
  rw[SimB] at h
  obtain ⟨y,k,rfl,h1,h2⟩:=h
  rw[List.reverse_cons,List.reverse_cons]
  refine SimB.app (SimB.rev h2) ?_
  rw[SimB]
  exact ⟨y,[],rfl,h1,by rw[SimB]⟩
theorem SimB.look (hr:∀a b,r a=r b→a=b) (u:Int):∀{b c:List (Int × Trm)},SimB Q r b c→(∀x,b.lookup u=some x→∃y,c.lookup (r u)=some y∧Sim Q r x y)∧(b.lookup u=Option.none→c.lookup (r u)=Option.none)
 | [],c,h=>by rw[SimB] at h;subst h;exact ⟨fun x hx=>by simp at hx,fun _=>rfl⟩
 | (a,z)::b,c,h=>by
  rw[SimB] at h
  obtain ⟨y,k,rfl,h1,h2⟩:=h
  have ih:=SimB.look hr u h2
  by_cases e:u=a
  ·subst e
   simp only[List.lookup_cons,beq_self_eq_true]
   exact ⟨fun x hx=>by cases hx;exact ⟨y,rfl,h1⟩,fun hx=>by cases hx⟩
  ·have e':(r u==r a)=false:=by simpa using fun h=>e (hr _ _ h)
   have e2:(u==a)=false:=by simpa using e
   simp only[List.lookup_cons,e',e2]
   exact ih
theorem sim_put (hr:∀a b,r a=r b→a=b) {b c:List (Int × Trm)} (hb:SimB Q r b c):∀x y:Trm,Sim Q r x y→Sim Q r (put b x) (put c y):=by
 intro x
 induction x using Trm.ind with
 | h o n v t ih=>
  intro y h
  obtain ⟨o',n',v',t'⟩:=y
  obtain ⟨h0,h1,h2,h3,h4⟩:=h.open
  have key:∀(l m:List Trm),(∀x∈l,∀y,Sim Q r x y→Sim Q r (put b x) (put c y))→SimL Q r l m→SimL Q r (putL b l) (putL c m):=fun l=>by
   induction l with
   | nil=>intro m _ h;rw[SimL] at h;subst h;rw[putL,putL,SimL]
   | cons x l ihl=>
    intro m hx h
    obtain ⟨y,k,rfl,g1,g2⟩:=h.uncons
    rw[putL,putL]
    exact SimL.cons (hx x (by simp) y g1) (ihl k (fun z hz=>hx z (List.mem_cons_of_mem _ hz)) g2)
  have hsame:Sim Q r (mk o n v (putL b t)) (mk o' n' v' (putL c t')):=Sim.close h0 h1 h2 h3 (key t t' ih h4)
  replace h0:o'=o:=h0
  subst h0
  unfold put
  by_cases ho:o'=1
  ·subst ho
   have e:n'=r n:=h2 (by show (1:Int)≠0;decide)
   subst e
   rw[if_pos rfl,if_pos rfl]
   obtain ⟨g1,g2⟩:=SimB.look hr n hb
   cases hl:b.lookup n with
   | none=>rw[g2 hl];exact hsame
   | some z=>
    obtain ⟨y,e,hy⟩:=g1 z hl
    rw[e]
    exact hy
  ·rw[if_neg ho,if_neg ho]
   exact hsame
structure QOk (I:List Dat→List Dat→Prop) (Q:List Dat→List Dat→Int→Int→Prop):Prop where
 get:∀{cs cs' n m},Q cs cs' n m→cs[n.toNat]?=cs'[m.toNat]?
 more:∀{cs cs' n m} (a:List Dat),Q cs cs' n m→Q (cs++a) (cs'++a) n m
 grow:∀{cs cs'} (a:List Dat),I cs cs'→I (cs++a) (cs'++a)
 new:∀{cs cs'} (d:Dat),I cs cs'→Q (cs++[d]) (cs'++[d]) cs.length cs'.length
def Step (Q:List Dat→List Dat→Int→Int→Prop) (r:Int→Int) (cs cs':List Dat) (p p':Trm × List Dat):Prop:=∃a,p.2=cs++a∧p'.2=cs'++a∧Sim (Q (cs++a) (cs'++a)) r p.1 p'.1
theorem Step.same {Q:List Dat→List Dat→Int→Int→Prop} {cs cs':List Dat} {x y:Trm} (h:Sim (Q cs cs') r x y):Step Q r cs cs' (x,cs) (y,cs'):=⟨[],by simp,by simp,by simpa using h⟩
variable {I : List Dat → List Dat → Prop} {Q : List Dat → List Dat → Int → Int → Prop}
theorem sim_data (hQ:QOk I Q) {cs cs':List Dat}:∀{l m:List Trm},SimL (Q cs cs') r l m→dataOf cs' m=dataOf cs l
 | [],m,h=>by rw[SimL] at h;subst h;rfl
 | x::l,m,h=>by
  obtain ⟨y,k,rfl,g1,g2⟩:=h.uncons
  obtain ⟨h0,h1,_⟩:=g1.open
  rw[dataOf,dataOf,h0,sim_data hQ g2]
  by_cases ho:x.op=0
  ·rw[if_pos ho,if_pos ho,hQ.get (h1 ho)]
  ·rw[if_neg ho,if_neg ho]
theorem sim_prim (hQ:QOk I Q) (F:Int→List Dat→Option Dat) (n:Int) {cs cs':List Dat} (hI:I cs cs') {l m:List Trm} (h:SimL (Q cs cs') r l m):Step Q r cs cs' (prim F n l cs) (prim F n m cs'):=by
 have hm:Sim (Q cs cs') r (mk 10 n [] l) (mk 10 n [] m):=Sim.close rfl (fun e=>absurd (show (10:Int)=0 from e) (by decide)) (fun _=>by show n=if (10:Int)=1∨(10:Int)=2∨(10:Int)=14 then r n else n;rw[if_neg (by decide)]) rfl h
 unfold prim
 rw[sim_data hQ h]
 split
 ·exact Step.same hm
 ·split
  ·exact Step.same hm
  ·rename_i d _
   refine ⟨[d],rfl,rfl,Sim.close rfl (fun _=>hQ.new d hI) (fun e=>absurd (show (0:Int)=0 from rfl) e) rfl (by show SimL _ _ [] [];rw[SimL])⟩
theorem sim_flat {Q0:Int→Int→Prop}:∀{l m:List Trm},SimL Q0 r l m→SimL Q0 r (flat l) (flat m)
 | [],m,h=>by rw[SimL] at h;subst h;unfold flat;rw[SimL]
 | x::l,m,h=>by
  obtain ⟨y,k,rfl,g1,g2⟩:=h.uncons
  obtain ⟨h0,_,_,_,h4⟩:=g1.open
  unfold flat
  rw[h0]
  split
  ·exact SimL.app h4 (sim_flat g2)
  ·exact SimL.cons g1 (sim_flat g2)
theorem sim_filter {Q0:Int→Int→Prop}:∀{l m:List Trm},SimL Q0 r l m→SimL Q0 r (l.filter fun x=>!idle x) (m.filter fun x=>!idle x)
 | [],m,h=>by rw[SimL] at h;subst h;rw[List.filter_nil,SimL]
 | x::l,m,h=>by
  obtain ⟨y,k,rfl,g1,g2⟩:=h.uncons
  rw[List.filter_cons,List.filter_cons,(sim_idle g1).1]
  split
  ·exact SimL.cons g1 (sim_filter g2)
  ·exact sim_filter g2
theorem sim_dropLast {Q0:Int→Int→Prop}:∀{l m:List Trm},SimL Q0 r l m→SimL Q0 r l.dropLast m.dropLast
 | [],m,h=>by rw[SimL] at h;subst h;rw[List.dropLast_nil,SimL]
 | [x],m,h=>by
  obtain ⟨y,k,rfl,g1,g2⟩:=h.uncons
  rw[SimL] at g2
  subst g2
  rw[List.dropLast_singleton,List.dropLast_singleton,SimL]
 | x::z::l,m,h=>by
  obtain ⟨y,k,rfl,g1,g2⟩:=h.uncons
  obtain ⟨y2,k2,rfl,g3,g4⟩:=g2.uncons
  rw[List.dropLast_cons_cons,List.dropLast_cons_cons]
  exact SimL.cons g1 (sim_dropLast g2)
theorem sim_last {Q0:Int→Int→Prop} {l m:List Trm} (h:SimL Q0 r l m):(∀x,l.getLast?=some x→∃y,m.getLast?=some y∧Sim Q0 r x y)∧(l.getLast?=Option.none→m.getLast?=Option.none):=by
 rw[List.getLast?_eq_getElem?,List.getLast?_eq_getElem?,h.len]
 exact ⟨fun x hx=>h.at _ x hx,fun hx=>h.out _ hx⟩
theorem sim_seq {Q0:Int→Int→Prop} {l m:List Trm} (h:SimL Q0 r l m):Sim Q0 r (seq l) (seq m):=by
 have hf:=sim_flat h
 have hd:=sim_filter (sim_dropLast hf)
 obtain ⟨g1,g2⟩:=sim_last hf
 have h6:∀{t t':List Trm},SimL Q0 r t t'→Sim Q0 r (mk 6 0 [] t) (mk 6 0 [] t'):=fun ht=>Sim.close rfl (fun e=>absurd (show (6:Int)=0 from e) (by decide)) (fun _=>by show (0:Int)=if (6:Int)=1∨(6:Int)=2∨(6:Int)=14 then r 0 else 0;rw[if_neg (by decide)]) rfl ht
 cases hl:(flat l).getLast? with
 | none=>
  have hm:=g2 hl
  have e1:seq l=mk 6 0 [] []:=by unfold seq;rw[hl];cases ((flat l).dropLast.filter fun x=>!idle x)<;>rfl
  have e2:seq m=mk 6 0 [] []:=by unfold seq;rw[hm];cases ((flat m).dropLast.filter fun x=>!idle x)<;>rfl
  rw[e1,e2]
  exact h6 (by rw[SimL])
 | some x=>
  obtain ⟨y,hm,hxy⟩:=g1 x hl
  cases ha:(flat l).dropLast.filter (fun x=>!idle x) with
  | nil=>
   rw[ha] at hd
   have hb:=SimL.none _ hd
   have e1:seq l=x:=by unfold seq;rw[hl,ha]
   have e2:seq m=y:=by unfold seq;rw[hm,hb]
   rw[e1,e2]
   exact hxy
  | cons a al=>
   rw[ha] at hd
   obtain ⟨b,bs,hb,k1,k2⟩:=hd.uncons
   have e1:seq l=mk 6 0 [] ((a::al)++[x]):=by unfold seq;rw[hl,ha]
   have e2:seq m=mk 6 0 [] ((b::bs)++[y]):=by unfold seq;rw[hm,hb]
   rw[e1,e2]
   exact h6 (SimL.app (SimL.cons k1 k2) (SimL.one hxy))
theorem sim_lets {Q0:Int→Int→Prop} (hr:∀a b,r a=r b→a=b) {x y:Trm} (hxy:Sim Q0 r x y):∀(vs:List Int) {l m:List Trm},SimL Q0 r l m→SimB Q0 r (lets x vs l).1 (lets y (vs.map r) m).1∧(lets y (vs.map r) m).2.1=(lets x vs l).2.1.map r∧SimL Q0 r (lets x vs l).2.2 (lets y (vs.map r) m).2.2
 | [],l,m,_=>by rw[List.map_nil];unfold lets;exact ⟨(by rw[SimB]),rfl,(by rw[SimL])⟩
 | v::vs,[],m,h=>by
  rw[SimL] at h;subst h
  rw[List.map_cons];unfold lets;exact ⟨(by rw[SimB]),rfl,(by rw[SimL])⟩
 | v::vs,z::l,m,h=>by
  obtain ⟨u,k,rfl,g1,g2⟩:=h.uncons
  obtain ⟨i1,i2,i3⟩:=sim_lets hr hxy vs g2
  obtain ⟨s1,s2,_⟩:=sim_idle g1
  rw[List.map_cons]
  unfold lets
  rw[s1,s2,sim_named hr v x y hxy]
  by_cases hl:light z=true
  ·rw[if_pos hl,if_pos hl]
   refine ⟨?_,i2,i3⟩
   rw[SimB]
   exact ⟨u,_,rfl,g1,i1⟩
  ·rw[if_neg hl,if_neg hl]
   by_cases hn:(!idle z || named v x)=true
   ·rw[if_pos hn,if_pos hn]
    refine ⟨i1,?_,SimL.cons g1 i3⟩
    rw[List.map_cons,←i2]
   ·rw[if_neg hn,if_neg hn]
    exact ⟨i1,i2,i3⟩
theorem sim_let {Q0:Int→Int→Prop} (hr:∀a b,r a=r b→a=b) (vs:List Int) {l m:List Trm} (h:SimL Q0 r l m):Sim Q0 r (letT vs l) (letT (vs.map r) m):=by
 have h8:∀{v:List Int} {t t':List Trm},SimL Q0 r t t'→Sim Q0 r (mk 8 0 v t) (mk 8 0 (v.map r) t'):=fun ht=>Sim.close rfl (fun e=>absurd (show (8:Int)=0 from e) (by decide)) (fun _=>by show (0:Int)=if (8:Int)=1∨(8:Int)=2∨(8:Int)=14 then r 0 else 0;rw[if_neg (by decide)]) rfl ht
 cases hl:l[vs.length]? with
 | none=>
  have hm:m[(vs.map r).length]?=none:=by rw[List.length_map];exact h.out _ hl
  have e1:letT vs l=mk 8 0 vs l:=by unfold letT;rw[hl]
  have e2:letT (vs.map r) m=mk 8 0 (vs.map r) m:=by unfold letT;rw[hm]
  rw[e1,e2]
  exact h8 h
 | some x=>
  obtain ⟨y,hy,hxy⟩:=h.at _ x hl
  obtain ⟨i1,i2,i3⟩:=sim_lets hr hxy vs h
  have hm:m[(vs.map r).length]?=some y:=by rw[List.length_map];exact hy
  have hp:=sim_put hr i1.rev x y hxy
  have e1:letT vs l=if (lets x vs l).2.1.isEmpty=true then put (lets x vs l).1.reverse x else mk 8 0 (lets x vs l).2.1 ((lets x vs l).2.2++[put (lets x vs l).1.reverse x]):=by unfold letT;rw[hl]
  have e2:letT (vs.map r) m=if (lets y (vs.map r) m).2.1.isEmpty=true then put (lets y (vs.map r) m).1.reverse y else mk 8 0 (lets y (vs.map r) m).2.1 ((lets y (vs.map r) m).2.2++[put (lets y (vs.map r) m).1.reverse y]):=by unfold letT;rw[hm]
  rw[e1,e2,i2]
  have e3:((lets x vs l).2.1.map r).isEmpty=(lets x vs l).2.1.isEmpty:=by cases (lets x vs l).2.1<;>rfl
  rw[e3]
  split
  ·exact hp
  ·exact h8 (SimL.app i3 (SimL.one hp))
end Fd
end
section
open Go Go.RowKit
namespace Fd
open Trm
def All2 (P:Trm→Trm→Prop):List Trm→List Trm→Prop
 | [],l=>l=[]
 | x::l,m=>∃y k,m=y::k∧P x y∧All2 P l k
theorem wfL_two {nc nc' nk:Int} {fr:Bool} {op:Int} {v:List Int} {sc1 sc2:Int→Bool}:∀{t t':List Trm},All2 (fun x y=>(x.op=4→y.op=4)∧(wf nc nk fr x sc1=true→wf nc' nk fr y sc2=true)∧(wf nc nk fr x (addV sc1 v)=true→wf nc' nk fr y (addV sc2 v)=true)) t t'→wfL nc nk fr op v t sc1=true→wfL nc' nk fr op v t' sc2=true
 | [],t',h,_=>by rw[All2] at h;subst h;rfl
 | [x],t',h,hw=>by
  rw[All2] at h
  obtain ⟨y,k,rfl,h1,h2⟩:=h
  rw[All2] at h2
  subst h2
  rw[wfL] at hw ⊢
  exact h1.2.2 hw
 | x::z::l,t',h,hw=>by
  rw[All2] at h
  obtain ⟨y,k,rfl,h1,h2⟩:=h
  have h2':=h2
  rw[All2] at h2
  obtain ⟨y2,k2,rfl,_,_⟩:=h2
  rw[wfL,Bool.and_eq_true] at hw ⊢
  refine ⟨?_,wfL_two h2' hw.2⟩
  have hx:=hw.1
  split
  ·rename_i ho
   rw[if_pos ho] at hx
   simp only[Bool.and_eq_true,decide_eq_true_eq] at hx ⊢
   exact ⟨h1.1 hx.1,h1.2.2 hx.2⟩
  ·rename_i ho
   rw[if_neg ho] at hx
   exact h1.2.1 hx
theorem wfL_part {nc nk:Int} {fr:Bool} {op:Int} {v:List Int} {sc:Int→Bool}:∀{t:List Trm},wfL nc nk fr op v t sc=true→∀(i:Nat) (x:Trm),t[i]?=some x→(i+1=t.length→wf nc nk fr x (addV sc v)=true)∧(i+1<t.length→op≠9→wf nc nk fr x sc=true)
 | [],_,i,x,hx=>by simp at hx
 | [y],hw,i,x,hx=>by
  cases i with
  | zero=>
   simp only[List.getElem?_cons_zero,Option.some.injEq] at hx
   subst hx
   rw[wfL] at hw
   exact ⟨fun _=>hw,fun h=>by simp at h⟩
  | succ i=>simp at hx
 | y::z::l,hw,i,x,hx=>by
  rw[wfL,Bool.and_eq_true] at hw
  cases i with
  | zero=>
   simp only[List.getElem?_cons_zero,Option.some.injEq] at hx
   subst hx
   refine ⟨fun h=>by simp at h,fun _ ho=>?_⟩
   have:=hw.1
   rwa[if_neg ho] at this
  | succ i=>
   obtain ⟨h1,h2⟩:=wfL_part hw.2 i x (by simpa using hx)
   exact ⟨fun h=>h1 (by simpa using h),fun h=>h2 (by simpa using h)⟩
theorem wf_open {nc nk:Int} {fr:Bool} {o n:Int} {v:List Int} {t:List Trm} {sc:Int→Bool} (h:wf nc nk fr (mk o n v t) sc=true):sortB o=true∧countsB o v.length t.length=true∧numberB nc nk fr sc o n v.length=true∧wfL nc nk fr o v t sc=true:=by
 rw[wf] at h
 simp only[Bool.and_eq_true] at h
 exact ⟨h.1,h.2.1,h.2.2.1,h.2.2.2⟩
theorem wf_close {nc nk:Int} {fr:Bool} {o n:Int} {v:List Int} {t:List Trm} {sc:Int→Bool} (h0:sortB o=true) (h1:countsB o v.length t.length=true) (h2:numberB nc nk fr sc o n v.length=true) (h3:wfL nc nk fr o v t sc=true):wf nc nk fr (mk o n v t) sc=true:=by
 rw[wf,h0,h1,h2,h3];rfl
theorem light_bare {nc nk:Int} {fr:Bool} {x:Trm} {sc:Int→Bool} (h:wf nc nk fr x sc=true) (hl:light x=true):x.v=[]∧x.t=[]:=by
 obtain ⟨o,n,v,t⟩:=x
 obtain ⟨_,h1,_⟩:=wf_open h
 simp only[light,Trm.op] at hl
 show v=[]∧t=[]
 rcases (by simpa using hl:o=0∨o=11∨o=1) with rfl | rfl | rfl<;>simpa[countsB] using h1
theorem number_mono {nc nc' nk:Int} {fr:Bool} {sc sc':Int→Bool} {o n:Int} {nv:Nat} (hnc:nc≤nc') (hs:o=1→sc n=true→sc' n=true) (h:numberB nc nk fr sc o n nv=true):numberB nc' nk fr sc' o n nv=true:=by
 unfold numberB at h ⊢
 by_cases h0:o=0
 ·rw[if_pos h0] at h ⊢
  simp only[Bool.and_eq_true,decide_eq_true_eq] at h ⊢
  omega
 rw[if_neg h0] at h ⊢
 by_cases h1:o=1
 ·rw[if_pos h1] at h ⊢
  exact hs h1 h
 rw[if_neg h1] at h ⊢
 exact h
theorem light_mono {nc nc' nk:Int} {fr:Bool} {x:Trm} {sc sc':Int→Bool} (hnc:nc≤nc') (hl:light x=true) (hs:∀n,sc n=true→sc' n=true) (h:wf nc nk fr x sc=true):wf nc' nk fr x sc'=true:=by
 obtain ⟨_,ht⟩:=light_bare h hl
 obtain ⟨o,n,v,t⟩:=x
 replace ht:t=[]:=ht
 subst ht
 obtain ⟨h0,h1,h2,h3⟩:=wf_open h
 exact wf_close h0 h1 (number_mono hnc (fun _=>hs n) h2) rfl
theorem addV_le {sc:Int→Bool} {v:List Int}:∀n,sc n=true→addV sc v n=true:=fun n h=>by simp[addV,h]
theorem put_op {b:List (Int × Trm)} {x:Trm} (h:x.op=4):(put b x).op=4:=by
 obtain ⟨o,n,v,t⟩:=x
 replace h:o=4:=h
 subst h
 rfl
theorem named_part {n:Int} {l:List Trm} {y:Trm} (hy:y∈l) (h:named n y=true):namedL n l=true:=by
 induction l with
 | nil=>simp at hy
 | cons x l ih=>
  rw[namedL]
  rcases List.mem_cons.1 hy with rfl | hy
  ·rw[h];rfl
  ·rw[ih hy,Bool.or_true]
theorem put_wf {nc nc' nk:Int} {fr:Bool} {b:List (Int × Trm)} (hnc:nc≤nc'):∀(x:Trm) (sc1 sc2:Int→Bool),wf nc nk fr x sc1=true→(∀p∈b,light p.2=true∧wf nc' nk fr p.2 sc2=true) →
  (∀n,named n x=true→sc1 n=true→b.lookup n=none→sc2 n=true)→wf nc' nk fr (put b x) sc2=true:=by
 intro x
 induction x using Trm.ind with
 | h o n v t ih=>
  intro sc1 sc2 h hb hn
  obtain ⟨h0,h1,h2,h3⟩:=wf_open h
  have hsame:(o=1→sc1 n=true→sc2 n=true)→wf nc' nk fr (mk o n v (putL b t)) sc2=true:=fun hs=>by
   refine wf_close h0 (by rw[putL_len];exact h1) (number_mono hnc hs h2) (wfL_two ?_ h3)
   have key:∀l:List Trm,(∀y∈l,y∈t)→All2 (fun x y=>(x.op=4→y.op=4)∧(wf nc nk fr x sc1=true→wf nc' nk fr y sc2=true)∧(wf nc nk fr x (addV sc1 v)=true→wf nc' nk fr y (addV sc2 v)=true)) l (putL b l):=fun l=>by
    induction l with
    | nil=>intro _;rw[putL,All2]
    | cons y l ihl=>
     intro hy
     have hyt:=hy y (by simp)
     rw[putL,All2]
     refine ⟨_,_,rfl,⟨put_op,fun hw=>ih y hyt sc1 sc2 hw hb fun m hm hs=>hn m (by rw[named,named_part hyt hm,Bool.or_true]) hs,fun hw=>ih y hyt _ _ hw (fun p hp=>⟨(hb p hp).1,light_mono (Int.le_refl _) (hb p hp).1 (addV_le) (hb p hp).2⟩) fun m hm hs hl=>?_⟩,ihl fun z hz=>hy z (List.mem_cons_of_mem _ hz)⟩
     by_cases hv:v.contains m=true
     ·simp only[addV,hv,Bool.or_true]
     ·have hs1:sc1 m=true:=by
       have:v.contains m=false:=by simpa using hv
       simpa only[addV,this,Bool.or_false] using hs
      exact addV_le m (hn m (by rw[named,named_part hyt hm,Bool.or_true]) hs1 hl)
   exact key t fun _ h=>h
  unfold put
  split
  ·rename_i ho
   have hnn:named n (mk o n v t)=true:=by rw[named];simp[ho]
   have hsc:sc1 n=true:=by
    subst ho
    simpa[numberB] using h2
   split
   ·rename_i y hy
    obtain ⟨p,hp⟩:=look_mem hy
    exact (hb _ hp).2
   ·rename_i hy
    exact hsame fun _ _=>hn n hnn hsc hy
  ·rename_i ho
   exact hsame fun e=>absurd e ho
theorem put_none:∀x:Trm,put [] x=x:=by
 intro x
 induction x using Trm.ind with
 | h o n v t ih=>
  have key:∀l:List Trm,(∀y∈l,put [] y=y)→putL [] l=l:=fun l=>by
   induction l with
   | nil=>intro _;rfl
   | cons y l ihl=>intro hy;rw[putL,hy y (by simp),ihl fun z hz=>hy z (List.mem_cons_of_mem _ hz)]
  unfold put
  rw[key t ih]
  split<;>rfl
theorem wf_move {nc nc' nk:Int} {fr:Bool} {x:Trm} {sc sc':Int→Bool} (hnc:nc≤nc') (h:wf nc nk fr x sc=true) (hs:∀n,named n x=true→sc n=true→sc' n=true):wf nc' nk fr x sc'=true:=by
 have:=put_wf (nk:=nk) (fr:=fr) (b:=[]) hnc x sc sc' h (fun p hp=>by simp at hp) fun n h1 h2 _=>hs n h1 h2
 rwa[put_none] at this
theorem wf_more {nc nc' nk:Int} {fr:Bool} {x:Trm} {sc:Int→Bool} (hnc:nc≤nc') (h:wf nc nk fr x sc=true):wf nc' nk fr x sc=true:=wf_move hnc h fun _ _ h=>h
def AllW (nc nk:Int) (fr:Bool) (sc:Int→Bool) (l:List Trm):Prop:=∀y∈l,wf nc nk fr y sc=true
theorem wfL_all {nc nk:Int} {fr:Bool} {op:Int} {sc:Int→Bool} (ho:op≠9):∀{t:List Trm},wfL nc nk fr op [] t sc=true↔AllW nc nk fr sc t
 | []=>by simp[wfL,AllW]
 | [x]=>by simp[wfL,AllW,addV_nil]
 | x::y::l=>by
  have ih:=wfL_all (nc:=nc) (nk:=nk) (fr:=fr) (sc:=sc) ho (t:=y::l)
  rw[wfL,if_neg ho,Bool.and_eq_true,ih]
  simp only[AllW,List.mem_cons,forall_eq_or_imp]
theorem wfL_snoc {nc nk:Int} {fr:Bool} {op:Int} {v:List Int} {sc:Int→Bool} (ho:op≠9) {x:Trm}:∀{l:List Trm},wfL nc nk fr op v (l++[x]) sc=true↔AllW nc nk fr sc l∧wf nc nk fr x (addV sc v)=true
 | []=>by simp[wfL,AllW]
 | y::l=>by
  have ih:=wfL_snoc (nc:=nc) (nk:=nk) (fr:=fr) (v:=v) (sc:=sc) ho (x:=x) (l:=l)
  cases hl:l++[x] with
  | nil=>simp at hl
  | cons z k=>
   rw[List.cons_append,hl,wfL,if_neg ho,Bool.and_eq_true,←hl,ih]
   simp only[AllW,List.mem_cons,forall_eq_or_imp,and_assoc]
theorem prim_wf {nk:Int} {fr:Bool} {F:Int→List Dat→Option Dat} {n:Int} {l:List Trm} {cs:List Dat} {sc:Int→Bool} (hn:0≤n∧n<31) (hl:AllW cs.length nk fr sc l):wf (prim F n l cs).2.length nk fr (prim F n l cs).1 sc=true:=by
 have hm:wf cs.length nk fr (mk 10 n [] l) sc=true:=wf_close (by decide) (by simp[countsB]) (by simp[numberB,hn]) ((wfL_all (by decide)).2 hl)
 unfold prim
 split
 ·exact hm
 ·split
  ·exact hm
  ·rename_i d _
   refine wf_close (by decide) (by decide) ?_ rfl
   have:((cs++[d]).length:Int)=cs.length+1:=by rw[List.length_append];rfl
   simp[numberB]
   omega
theorem flat_wf {nc nk:Int} {fr:Bool} {sc:Int→Bool}:∀{l:List Trm},AllW nc nk fr sc l→AllW nc nk fr sc (flat l)
 | [],h=>h
 | x::l,h=>by
  have hx:=h x (by simp)
  have hl:=flat_wf fun y hy=>h y (List.mem_cons_of_mem _ hy)
  unfold flat
  split
  ·rename_i ho
   obtain ⟨o,n,v,t⟩:=x
   replace ho:o=6:=ho
   subst ho
   obtain ⟨_,h1,_,h3⟩:=wf_open hx
   have hv:v=[]:=by
    simp[countsB] at h1
    exact h1.1
   subst hv
   have ht:=(wfL_all (by decide)).1 h3
   intro y hy
   rcases List.mem_append.1 hy with hy | hy
   ·exact ht y hy
   ·exact hl y hy
  ·intro y hy
   rcases List.mem_cons.1 hy with rfl | hy
   ·exact hx
   ·exact hl y hy
theorem seq_wf {nc nk:Int} {fr:Bool} {sc:Int→Bool} {l:List Trm} (hne:l≠[]) (hl:AllW nc nk fr sc l) (hc:∀y∈l,y.op=6→y.t≠[]):wf nc nk fr (seq l) sc=true:=by
 have hf:=flat_wf hl
 have hfn:flat l≠[]:=by
  cases l with
  | nil=>exact absurd rfl hne
  | cons x l=>
   unfold flat
   split
   ·rename_i ho
    have:=hc x (by simp) ho
    simp[this]
   ·simp
 unfold seq
 split
 ·rename_i x _ hx
  exact hf x (List.mem_of_getLast? hx)
 ·rename_i r x hx _
  refine wf_close (by decide) (by simp[countsB]) (by simp[numberB]) ((wfL_all (by decide)).2 fun y hy=>?_)
  rcases List.mem_append.1 hy with hy | hy
  ·exact hf y (List.dropLast_subset _ (List.mem_filter.1 hy).1)
  ·rw[List.mem_singleton.1 hy];exact hf x (List.mem_of_getLast? hx)
 ·rename_i hx
  exact absurd (by simpa using hx) hfn
end Fd
end
section
open Go Go.RowKit
namespace Fd
open Trm
mutual
def trim:Trm→Bool
 | mk op n v t=>(!(op==6) || (n==0&&v.isEmpty))&&((!(op==8) || n==0)&&trimL t)
def trimL:List Trm→Bool
 | []=>true
 | x::l=>trim x&&trimL l
end
variable {F : Int → List Dat → Option Dat}
theorem trimL_iff {l:List Trm}:trimL l=true↔∀y∈l,trim y=true:=by
 induction l with
 | nil=>simp[trimL]
 | cons x l ih=>simp[trimL,ih]
end Fd
end
section
open Go Go.RowKit Go.Maps Go.ChangeMaps Go.MapKept
def heldV (v:Value):Option (DataW Value × List MemPlace):=some (.held v,[])
def zeroTV:Value:=.agg #[.int .i64 0,.int .i64 0,.slice none 0 0,.slice none 0 0]
def MapVT (W:World) (b n:Nat) (f:Int→Option Value):Prop:=∃D:DataW Value,W.ownsMap Tryz.prog 3 heldV b n D∧IsMap D∧(∀x,Maps.has D (.int .i64 x)=(f x).isSome)∧∀x,D.atKey (.int .i64 x) (.held zeroTV)=.held ((f x).getD zeroTV)
theorem MapVT.new (W:World):MapVT (W.alloc (.map #[] 0)) W.heap.size 0 (fun _=>none):=⟨_,World.ownsMap_made _ _ _ _,isMap_empty,fun x=>by simp[Maps.has],fun x=>by simp[DataW.atKey]⟩
theorem MapVT.lt {W:World} {b n:Nat} {f:Int→Option Value} (h:MapVT W b n f):b<W.heap.size:=let ⟨_,h,_⟩:=h;h.lt
theorem ownsMap_blockV {P:Program} {k:TypeId} {R:Value→Option (DataW Value × List MemPlace)} {W W':World} {b n:Nat} {D:DataW Value} (h:W.ownsMap P k R b n D) (hb:W'.heap[b]?=W.heap[b]?):W'.ownsMap P k R b n D:=by
 obtain ⟨es,clock,h1,h2⟩:=h
 exact ⟨es,clock,hb.trans h1,h2⟩
theorem MapVT.same {W W':World} {b n:Nat} {f:Int→Option Value} (h:MapVT W b n f) (hb:W'.heap[b]?=W.heap[b]?):MapVT W' b n f:=let ⟨D,h1,h2⟩:=h;⟨D,ownsMap_blockV h1 hb,h2⟩
theorem MapVT.keep {W W':World} {b n:Nat} {f:Int→Option Value} (h:MapVT W b n f) (hb:Below W.heap.size W W'):MapVT W' b n f:=h.same (hb.block _ h.lt)
theorem zeroT (w:World):(zeroValue 26).run Tryz.prog w=.ok zeroTV w:=by kernel_rfl
section
variable {w : World} {ops : Array Oper} {rest : List Oper} {o : Oper} {a : Act} {Q : Exit → Act → World → Prop}
theorem wpList_lookVT (hg:o.guard=none) (m x:Operand) (hop:o.op=Op.lookup 99 m x true) (b n:Nat) (f:Int→Option Value) (hm:a.eval m=.map (some b)) (hown:MapVT w b n f) (k:Int) (hx:a.eval x=.int .i64 k) (hk:I64 k)
  (hK:wpList Tryz.prog ops Q rest (a.put o.dst (.tuple #[(f k).getD zeroTV,.bool (f k).isSome])) w):wpList Tryz.prog ops Q (o::rest) a w:=by
 obtain ⟨D,h1,h2,h3,h4⟩:=hown
 refine wpList_lookup_own_ok w hg m x _ hop 3 26 key_int Tryz.underlying99 heldV (zeroT w) _ _ rfl b n D hm h1 _ _ hx (keyOf_i64 hk) ?_
 intro v ps hv
 rw[h3 k]
 rw[h4 k] at hv
 simp only[heldV,Option.some.injEq,Prod.mk.injEq,DataW.held.injEq] at hv
 rw[hv.1]
 exact hK
theorem wpList_putVT (hg:o.guard=none) (m x v:Operand) (hop:o.op=Op.mapUpdate 99 m x v) (b n:Nat) (f:Int→Option Value) (hm:a.eval m=.map (some b)) (hown:MapVT w b n f) (hn:n<1000000000000) (k:Int) (c:Value) (hx:a.eval x=.int .i64 k) (hv:a.eval v=c) (hk:I64 k)
  (hK:∀w',MapVT w' b (n+1) (fun x=>if x=k then some c else f x)→w.grownBy w' (some b)→wpList Tryz.prog ops Q rest (a.put o.dst undef) w'):wpList Tryz.prog ops Q (o::rest) a w:=by
 obtain ⟨D,h1,h2,h3,h4⟩:=hown
 refine wpList_mapUpdate_own w hg m x v _ hop 3 26 key_int Tryz.underlying99 _ b n D hm h1 (by unfold maxLen;omega) _ _ _ hx hv (keyOf_i64 hk) _ _ rfl ?_
 intro w' h5 h6
 refine hK w' ⟨_,h5,h2.put _ _,fun x=>?_,fun x=>?_⟩ h6
 ·show _=(if x=k then some c else f x).isSome
  by_cases e:x=k
  ·subst e
   rw[has_put_same h2 (isKeyZ x),if_pos rfl];rfl
  ·rw[has_put_other (by intro e';simp only[Lit.int.injEq,true_and] at e';omega),h3 x,if_neg e]
 ·show _=DataW.held ((if x=k then some c else f x).getD zeroTV)
  by_cases e:x=k
  ·subst e
   rw[if_pos rfl,atKey_put_same h2 (isKeyZ x)]
   rfl
  ·rw[if_neg e,atKey_put_other (by intro e';simp only[Lit.int.injEq,true_and] at e';omega),h4 x]
end
end
section
open Go Go.RowKit
structure KeepC (T:Nat→Prop) (A B:World):Prop where
 os:B.os=A.os
 tape:B.tape=A.tape
 output:B.output=A.output
 size:A.heap.size≤B.heap.size
 block:∀b cs t f,A.heap[b]?=some (.cells cs t f)→¬T b→B.heap[b]?=some (.cells cs t f)
theorem KeepC.refl (T:Nat→Prop) (A:World):KeepC T A A:=⟨rfl,rfl,rfl,Nat.le_refl _,fun _ _ _ _ h _=>h⟩
theorem KeepC.trans {T:Nat→Prop} {A B C:World} (h:KeepC T A B) (k:KeepC T B C):KeepC T A C:=
 ⟨k.os.trans h.os,k.tape.trans h.tape,k.output.trans h.output,Nat.le_trans h.size k.size,fun b cs t f hb hn=>k.block b cs t f (h.block b cs t f hb hn) hn⟩
theorem KeepC.of_turned {T:Nat→Prop} {A B:World} (h:Turned T A B):KeepC T A B:=
 ⟨h.os,h.tape,h.output,h.size,fun b _ _ _ hb hn=>(h.block b (Array.getElem?_eq_some_iff.1 hb).1 hn).trans hb⟩
theorem KeepC.of_below {T:Nat→Prop} {A B:World} (h:Below A.heap.size A B):KeepC T A B:=.of_turned (.of_below h)
theorem KeepC.put {T:Nat→Prop} {A:World} {l:Nat} {o:Obj} (o':Obj) (hl:A.heap[l]?=some o) (ho:o.isCells=false):KeepC T A (A.putObj l o'):=by
 have g:=grownBy_putObj' A l o'
 refine ⟨g.os,g.tape,g.output,g.size,fun b cs t f hb _=>(World.putObj_heap_other ?_).trans hb⟩
 rintro rfl
 rw[hb] at hl
 cases hl
 cases ho
theorem KeepC.box {T:Nat→Prop} {A B:World} {b:Nat} {t:TypeId} {cs:List Value} (h:KeepC T A B) (hb:BoxL A b t cs) (hn:¬T b):BoxL B b t cs:=h.block b _ _ _ hb hn
theorem KeepC.shown {T:Nat→Prop} {A B:World} (h:KeepC T A B):Shown A T B T:=fun c o u hc hu=>by
 refine ⟨hc,?_⟩
 unfold World.cell? at hu ⊢
 cases hb:A.heap[c]? with
 | none=>rw[show A.heap[({ block:=c,off:=o,spot:=none }:Addr).block]?=A.heap[c]? from rfl,hb] at hu;cases hu
 | some ob=>
  rw[show A.heap[({ block:=c,off:=o,spot:=none }:Addr).block]?=A.heap[c]? from rfl,hb] at hu
  cases ob with
  | cells cs t f=>
   rw[show B.heap[({ block:=c,off:=o,spot:=none }:Addr).block]?=B.heap[c]? from rfl,h.block c cs t f hb hc]
   exact hu
  | _=>cases hu
theorem wpIn_range_T {α:Type} {n:Nat} {g:Operand} {ps:Array Tmp} {assign body:Code} {Q:Exit→Act→World→Prop} {a:Act} {w:World} {P:Program} {gf:Nat} {lb:Array Value}
  (hg:a.eval g=.func (.func gf) #[] lb) (eg:∀args w,(callFunc gf args).run P w=.ok (.enter gf args) w) (enc:α→Value) (T:Nat→Prop) (hT:∀b,T b→b<w.heap.size) (S:List α→Prop) (N:Nat)
  (hseq:∀(l:Nat) (J:List α→World→Prop) (W:World),(∀s A B,J s A→Below A.heap.size A B→J s B)→Below w.heap.size w W →
   (∀m pre y W1,J pre W1→pre.length<N→YieldAt Fence.wide m P l #[enc y] W1 fun e W'=>e=.returned (.bool true)∧J (pre++[y]) W'∧KeepC T W1 W')→J [] W →
   CallsIn Fence.wide (n-1) P gf (#[.func (.yield l) #[] #[]]++lb) W fun e W'=>(∃v,e=.returned v)∧∃xs,S xs∧J xs W')
  (hps:ps.size=1) (I:List α→World→Prop) (hI:∀s A B,I s A→Turned (fun b=>w.heap.size≤b) A B→I s B) (h0:I [] w)
  (Ax:α→Act→World→Prop) (hAx:∀(x:α) (a':Act) (A B:World),(∀(b:Nat) (cs:Array Value) (t:TypeId) (f:Nat × Nat),A.heap[b]?=some (.cells cs t f)→B.heap[b]?=some (.cells cs t f))→A.heap.size≤B.heap.size→Ax x a' A→Ax x a' B)
  (hassign:∀(l m:Nat) (x:α) (W:World) (K:Act→World→Prop),(∀a' W',Below W.heap.size W W'→Ax x a' W'→K a' W') →
   assign.wpIn (Fence.wide.inRound l) m P (Exit.then K (fun _ _ _=>False)) { tmps:=(ps.zip #[enc x]).foldl (fun t (p,v)=>t.setIfInBounds p v) a.tmps,defers:=[] } W)
  (hbody:∀(l m:Nat) (pre:List α) (x:α) (a':Act) (W:World),I pre W→Ax x a' W→pre.length<N→body.wpIn (Fence.wide.inRound l) m P (fun e _ W'=>e=.normal∧Turned T W W'∧I (pre++[x]) W') a' W)
  (hdone:∀(D:Nat) (xs:List α) (W:World),w.heap.size≤D→S xs→I xs W→W.heap[D]?=some (.deferred (some []))→Q .normal { a with defers:={ target:=.collected D,args:=#[] }::a.defers } W) :
  (Code.rangeFunc g ps assign body).wpIn Fence.wide n P Q a w:=by
 refine wpIn_rangeFunc ?_
 intro fn hfn
 obtain ⟨rec,hrec⟩:∃rec:LoopState→Loop,rec=fun st=>{ state:=st,pending:=none,fn,tmps:=a.tmps,params:=ps,assign,body,defers:=w.heap.size }:=⟨_,rfl⟩
 obtain ⟨W1,hW1⟩:∃W1,(w.alloc (.deferred (some []))).alloc (.loop (rec .ready))=W1:=⟨_,rfl⟩
 have hL1:W1.heap[w.heap.size+1]?=some (.loop (rec .ready)):=by
  rw[←hW1]
  have:=World.alloc_heap_new (w.alloc (.deferred (some []))) (.loop (rec .ready))
  rwa[World.size_alloc] at this
 have hK1:W1.heap[w.heap.size]?=some (.deferred (some [])):=by
  rw[←hW1];exact (Below.heap_alloc _ _ _ (by simp)).trans (World.alloc_heap_new w _)
 have hb1:Below w.heap.size w W1:=by
  rw[←hW1];exact ((Below.refl _ w).alloc (Nat.le_refl _) _).alloc (by simp) _
 have hI1:I [] W1:=hI _ _ _ h0 (.of_below hb1)
 have put:∀s (A:World) (k:Nat) (o':Obj),w.heap.size≤k→I s A→I s (A.putObj k o'):=fun s A k o' hk h=>hI s _ _ h (Turned.grown (grownBy_putObj' A k o') fun b e=>by cases e;exact hk)
 refine ⟨w.heap.size+1,[{ target:=.collected w.heap.size,args:=#[] }],W1,{ target:=.fn (.func gf) lb,args:=#[.func (.yield (w.heap.size+1)) #[] #[]] },W1,gf,
  #[.func (.yield (w.heap.size+1)) #[] #[]]++lb,W1,?_,?_,fun _ _=>trivial,?_,fun h=>(by cases h),?_⟩
 ·rw[←hW1,hrec];exact run_enterLoop_outer _ _ _ _ _
 ·simp only[resolve,hg]
  simp[go_sem]
 ·simp[invoke,go_sem,eg]
 ·refine (hseq (w.heap.size+1) (fun pre W=>I pre W∧W.heap[w.heap.size+1]?=some (.loop (rec .ready))∧W.heap[w.heap.size]?=some (.deferred (some []))) W1 ?_ hb1 ?_ ⟨hI1,hL1,hK1⟩).mono ?_
  ·rintro s A C ⟨h1,h2,h3⟩ hb
   exact ⟨hI s _ _ h1 (.of_below hb),(hb.block _ (Array.getElem?_eq_some_iff.1 h2).1).trans h2,(hb.block _ (Array.getElem?_eq_some_iff.1 h3).1).trans h3⟩
  ·rintro m pre y W ⟨hi,hl,hk⟩ hlen
   have hy:=run_yield (P:=P) (args:=#[enc y]) hl (by rw[hrec];simp[hps])
   rw[hrec] at hy
   refine ⟨fn,_,assign,body,hy,roundIn_of_wpIn trivial (hassign _ _ y W _ ?_)⟩
   intro a' Wa hba hax
   have hla:=(hba.block _ (Array.getElem?_eq_some_iff.1 hl).1).trans hl
   have hka:=(hba.block _ (Array.getElem?_eq_some_iff.1 hk).1).trans hk
   have hlt:=(Array.getElem?_eq_some_iff.1 hla).1
   refine ⟨_,run_beginRound hla (by rw[hrec]),?_⟩
   have hl2:(Wa.putObj (w.heap.size+1) (.loop { rec .ready with state:=.busy })).heap[w.heap.size+1]?=some (.loop { rec .ready with state:=.busy }):=World.putObj_heap_same hlt
   have hk2:(Wa.putObj (w.heap.size+1) (.loop { rec .ready with state:=.busy })).heap[w.heap.size]?=some (.deferred (some [])):=(World.putObj_heap_other (by omega)).trans hka
   have kp2:KeepC T Wa (Wa.putObj (w.heap.size+1) (.loop { rec .ready with state:=.busy })):=KeepC.put _ hla rfl
   refine wpIn_mono (hbody _ _ pre y a' _ (put _ _ _ _ (by omega) (hI _ _ _ hi (.of_below hba))) (hAx _ _ _ _ (fun b cs t f hb=>(KeepC.put (T:=fun _=>False) _ hla rfl).block b cs t f hb (fun h=>h)) kp2.size hax) hlen) ?_
   rintro e a3 W3 ⟨rfl,ht3,hi3⟩
   have hl3:=(ht3.block _ (Array.getElem?_eq_some_iff.1 hl2).1 fun h=>by have:=hT _ h;omega).trans hl2
   have hk3:=(ht3.block _ (Array.getElem?_eq_some_iff.1 hk2).1 fun h=>by have:=hT _ h;omega).trans hk2
   have hr:=run_endRound (P:=P) none hl3
   rw[hrec] at hr hl3
   refine ⟨_,_,hr,rfl,⟨put _ _ _ _ (by omega) hi3,?_,(World.putObj_heap_other (by omega)).trans hk3⟩,(((KeepC.of_below hba).trans kp2).trans (.of_turned ht3)).trans (KeepC.put _ hl3 rfl)⟩
   rw[hrec]
   exact World.putObj_heap_same (Array.getElem?_eq_some_iff.1 hl3).1
  ·rintro e W2 ⟨⟨v,rfl⟩,xs,hS,hi,hl,hk⟩
   refine ⟨none,_,by have:=run_endLoop (P:=P) hl (by rw[hrec];simp);rw[hrec] at this;exact this,hdone _ xs _ (Nat.le_refl _) hS (put _ _ _ _ (by omega) hi) ((World.putObj_heap_other (by omega)).trans hk)⟩
section
variable {P : Program} {fn : Func} {R : Ending → World → Prop} {a : Act} {w : World} {v : Value} {n : Nat}
theorem wpW_act {c:Code} {Q:Exit→Act→World→Prop} (h:∀a0,a0=a→c.wp P Q a0 w):c.wp P Q a w:=h a rfl
theorem callsW_of_wp {f:FuncId} {c:Code} {args:Array Value} (hf:P.funcs[f]?=some fn) (hb:fn.body=some c) (h:c.wp P (bodyPostM Fence.wide n P fn R) { tmps:=args++Array.replicate (fn.ntmps-args.size) undef,defers:=[] } w):Calls P f args w R:=
 (callsIn_wide (n:=n)).1 (callsIn_of_wp_marks hf hb trivial (wpIn_wide.2 h))
theorem postW_ret {D:Nat} (hD:w.heap[D]?=some (.deferred (some []))) (hr:(results fn a.tmps).run P (w.putObj D (.deferred none))=.ok v (w.putObj D (.deferred none))) (hd:a.defers=[{ target:=.collected D,args:=#[] }]) (hR:R (.returned v) (w.putObj D (.deferred none))):bodyPostM Fence.wide n P fn R .ret a w:=by
 show LeavesInM Fence.wide n P fn a.tmps R a.defers .returning w
 rw[hd]
 exact ⟨by simp,.inl ⟨D,_,rfl,run_takeDeferred hD,v,hr,hR⟩⟩
end
end
end Go.Proofs.YtgbibibmpoekiaaGreatDoor
