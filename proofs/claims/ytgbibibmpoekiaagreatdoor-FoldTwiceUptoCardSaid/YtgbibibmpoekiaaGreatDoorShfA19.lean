/-
  What the proofs lean on: TrH, Fd5, Fd8, Fd6.
-/
import Derived.Test.YtgbibibmpoekiaaGreatDoorShfA10
import Derived.Test.YtgbibibmpoekiaaGreatDoorShfA17
set_option maxRecDepth 100000
set_option maxHeartbeats 16000000
namespace Go.Proofs.YtgbibibmpoekiaaGreatDoor
section
open Go Go.RowKit
theorem SlC.cells {α:Type} {w w':World} {B B' size:Nat} {R R':α→List Value→Prop} {l:List α} {v:Value} (h:SlC w B size R l v) (hc:∀c o u,w.cell? ⟨c,o,none⟩=some u→w'.cell? ⟨c,o,none⟩=some u) (hB:B≤B') (hR:∀x∈l,∀cs,R x cs→R' x cs):SlC w' B' size R' l v:=by
 obtain ⟨o,len,cap,rfl,h1,h2,h3,h4⟩:=h
 refine ⟨o,len,cap,rfl,h1,h2,h3,?_⟩
 cases o with
 | none=>exact h4
 | some a=>
  refine ⟨fun hl=>⟨(h4.1 hl).1,Nat.lt_of_lt_of_le (h4.1 hl).2 hB⟩,fun i x hx=>?_⟩
  obtain ⟨cs,hl,hk,hr⟩:=h4.2 i x hx
  exact ⟨cs,hl,fun j u hu=>hc _ _ _ (hk j u hu),hR x (List.mem_of_getElem? hx) cs hr⟩
theorem TrmR.cells {w w':World} {B B':Nat} (hc:∀c o u,w.cell? ⟨c,o,none⟩=some u→w'.cell? ⟨c,o,none⟩=some u) (hB:B≤B'):∀(x:Trm) (cs:List Value),TrmR w B x cs→TrmR w' B' x cs:=by
 intro x
 induction x using Trm.ind with
 | _ o n v t ih=>
  intro cs h
  obtain ⟨vs,ts,rfl,h1,h2,h3,h4⟩:=trmR_iff.1 h
  exact trmR_iff.2 ⟨vs,ts,rfl,h1,h2,h3.cells hc hB fun _ _ _ h=>h,h4.cells hc hB fun x hx cs h=>ih x hx cs h⟩
theorem TrmR.shown {W W':World} {S S':Nat→Prop} {B B':Nat} {x:Trm} {cs:List Value} (h:TrmR (hide W S) B x cs) (hs:Shown W S W' S') (hB:B≤B'):TrmR (hide W' S') B' x cs:=TrmR.cells hs.cells hB x cs h
theorem TrmS.shown {W W':World} {S S':Nat→Prop} {B B':Nat} {l:List Trm} {v:Value} (h:TrmS (hide W S) B l v) (hs:Shown W S W' S') (hB:B≤B'):TrmS (hide W' S') B' l v:=SlC.cells h hs.cells hB fun _ _ _ h=>h.shown hs hB
theorem ints_shown {W W':World} {S S':Nat→Prop} {B B':Nat} {l:List Int} {v:Value} (h:SlC (hide W S) B 1 IntR l v) (hs:Shown W S W' S') (hB:B≤B'):SlC (hide W' S') B' 1 IntR l v:=SlC.cells h hs.cells hB fun _ _ _ h=>h
theorem TrmR.unhide {W:World} {S:Nat→Prop} {B:Nat} {x:Trm} {cs:List Value} (h:TrmR (hide W S) B x cs):TrmR W B x cs:=TrmR.cells (fun _ _ _ h=>(hide_some h).2) (Nat.le_refl _) x cs h
theorem TrmS.unhide {W:World} {S:Nat→Prop} {B:Nat} {l:List Trm} {v:Value} (h:TrmS (hide W S) B l v):TrmS W B l v:=SlC.cells h (fun _ _ _ h=>(hide_some h).2) (Nat.le_refl _) fun _ _ _ h=>h.unhide
theorem ints_unhide {W:World} {S:Nat→Prop} {B:Nat} {l:List Int} {v:Value} (h:SlC (hide W S) B 1 IntR l v):SlC W B 1 IntR l v:=SlC.cells h (fun _ _ _ h=>(hide_some h).2) (Nat.le_refl _) fun _ _ _ h=>h
theorem hide_dug {W:World} {S:Nat→Prop} {B:Nat} (hS:∀b,S b→B≤b):Below B W (hide W S):=⟨rfl,rfl,rfl,by rw[hide_size];exact Nat.le_refl _,fun b hb=>hide_heap fun h=>by have:=hS b h;omega⟩
theorem TrmR.dug {W:World} {S:Nat→Prop} {B:Nat} {x:Trm} {cs:List Value} (h:TrmR W B x cs) (hS:∀b,S b→B≤b):TrmR (hide W S) B x cs:=TrmR.kept (hide_dug hS) x cs h
def GrownT (e:TypeId) (W:World) (S:Nat→Prop) (base:Nat) (l:List Trm) (v:Value):Prop:=(∀b,S b→b<W.heap.size)∧(∀g,v.ownBlock=some g→¬S g)∧base≤W.heap.size∧∃xs,W.ownsRow base e 4 v l.length xs∧CellsG 4 (TrmR (hide W (SR S v)) W.heap.size) l xs
variable {e : TypeId}
theorem GrownT.nil (W:World) {S:Nat→Prop} {base:Nat} (hS:∀b,S b→b<W.heap.size) (hb:base≤W.heap.size):GrownT e W S base [] (.slice none 0 0):=⟨hS,fun _ h=>by simp[Value.ownBlock] at h,hb,[],World.ownsRow_nil _ _ _ _,rfl⟩
theorem GrownT.block {W:World} {S:Nat→Prop} {base:Nat} {l:List Trm} {v:Value} (h:GrownT e W S base l v) {g:Nat} (hg:v.ownBlock=some g):base≤g∧g<W.heap.size:=by
 obtain ⟨_,_,_,xs,h1,_⟩:=h
 exact h1.lt g hg
theorem GrownT.apart {W:World} {S:Nat→Prop} {base:Nat} {l:List Trm} {v:Value} (h:GrownT e W S base l v):∀g,v.ownBlock=some g→¬S g:=h.2.1
theorem GrownT.form {W:World} {S:Nat→Prop} {base:Nat} {l:List Trm} {v:Value} (h:GrownT e W S base l v):∃o len cap,v=.slice o len cap∧len≤cap∧len=l.length:=by
 obtain ⟨_,_,_,xs,h1,_⟩:=h
 rcases h1.2 with ⟨hv,h0⟩ | ⟨g,cap,cur,hv,_,_,h2,_⟩
 ·exact ⟨_,_,_,hv,Nat.le_refl _,h0.symm⟩
 ·exact ⟨_,_,_,hv,h2,rfl⟩
theorem GrownT.turned {T:Nat→Prop} {W W':World} {S:Nat→Prop} {base:Nat} {l:List Trm} {v:Value} (h:GrownT e W S base l v) (ht:Turned T W W') (hT:∀b,b<W.heap.size→T b→S b):GrownT e W' S base l v:=by
 obtain ⟨h0,hap,h00,xs,h1,h2⟩:=h
 refine ⟨fun b hb=>Nat.lt_of_lt_of_le (h0 b hb) ht.size,hap,Nat.le_trans h00 ht.size,xs,?_,h2.mono fun _ _ _ hx=>hx.shown (Shown.turned ht fun b hb hs=>.inl (hT b hb hs)) ht.size⟩
 refine ⟨h1.1,?_⟩
 rcases h1.2 with h' | ⟨g,cap,cur,rfl,k2,k3,k4⟩
 ·exact .inl h'
 ·refine .inr ⟨g,cap,cur,rfl,k2,?_,k4⟩
  have hlt:=(h1.lt g rfl).2
  exact (ht.block g hlt fun hs=>hap g rfl (hT g hlt hs)).trans k3
theorem GrownT.below {W W':World} {S:Nat→Prop} {base:Nat} {l:List Trm} {v:Value} (h:GrownT e W S base l v) (hb:Below W.heap.size W W'):GrownT e W' S base l v:=
 h.turned (T:=fun _=>False) (Turned.of_below hb) fun _ _ h=>h.elim
theorem GrownT.rep {W:World} {S:Nat→Prop} {base:Nat} {l:List Trm} {v:Value} (h:GrownT e W S base l v):TrmS (hide W S) W.heap.size l v:=by
 obtain ⟨h0,hap,h00,xs,h1,h2⟩:=h
 have:=slC_of_row (w:=hide W S) (row_hide h1 hap) (h2.mono fun _ _ _ hx=>hx.shown (Shown.less W fun b _ hb=>.inl hb) (Nat.le_refl _))
 rwa[hide_size] at this
theorem GrownT.less {W:World} {S S':Nat→Prop} {base base':Nat} {l:List Trm} {v:Value} (h:GrownT e W S' base' l v) (hs:∀b,S b→S' b) (hb:base≤base'):GrownT e W S base l v:=by
 obtain ⟨h0,hap,h00,xs,h1,h2⟩:=h
 refine ⟨fun b hb=>h0 b (hs b hb),fun g hg h=>hap g hg (hs g h),Nat.le_trans hb h00,xs,⟨h1.1,?_⟩,h2.mono fun _ _ _ hx=>hx.shown (Shown.less W fun b _ hb=>hb.imp (hs b) id) (Nat.le_refl _)⟩
 rcases h1.2 with h' | ⟨g,cap,cur,rfl,k2,k3⟩
 ·exact .inl h'
 ·exact .inr ⟨g,cap,cur,rfl,Nat.le_trans hb k2,k3⟩
theorem svT_lt {W:World} {S:Nat→Prop} {base:Nat} {l:List Trm} {v:Value} (h:GrownT e W S base l v) {n:Nat} (hn:W.heap.size≤n):∀b,SR S v b→b<n:=fun b hb=>hb.elim (fun hb=>by have:=h.1 b hb;omega) fun hb=>Nat.lt_of_lt_of_le (h.block hb).2 hn
end
section
open Go Go.RowKit
namespace Fd
open Trm
variable {r : Int → Int} {I : List Dat → List Dat → Prop} {Q : List Dat → List Dat → Int → Int → Prop}
theorem sim_any {Q0:Int→Int→Prop} (hr:∀a b,r a=r b→a=b) {x y:Trm} (h:Sim Q0 r x y):∀v:List Int,(v.map r).any (fun u=>named u y)=v.any fun u=>named u x
 | []=>rfl
 | u::v=>by rw[List.map_cons,List.any_cons,List.any_cons,sim_named hr u x y h,sim_any hr h v]
theorem sim_post (hQ:QOk I Q) (hr:∀a b,r a=r b→a=b) (F:Int→List Dat→Option Dat) {cs cs':List Dat} (hI:I cs cs') {o n n':Int} {v:List Int} {t t':List Trm} (hs:Sim (Q cs cs') r (mk o n v t) (mk o n' (v.map r) t')) :
  Step Q r cs cs' (post F o n v t cs) (post F o n' (v.map r) t' cs'):=by
 obtain ⟨_,h1,h2,_,h4⟩:=hs.open
 replace h4:SimL (Q cs cs') r t t':=h4
 have hn:o≠0→o≠1→o≠2→o≠14→n'=n:=fun a b c d=>by
  have:=h2 a
  rwa[if_neg (by intro e;rcases e with e | e | e;exact b e;exact c e;exact d e)] at this
 have self:=Step.same hs
 unfold post
 by_cases ho:o=5
 ·rw[if_pos ho,if_pos ho]
  cases t with
  | nil=>rw[SimL.none _ h4] at self ⊢;exact self
  | cons a l=>
   obtain ⟨b,k,rfl,g1,g2⟩:=h4.uncons
   obtain ⟨k0,k1,k2,k3,k4⟩:=g1.open
   have hbn:a.op≠0→a.op≠1→a.op≠2→a.op≠14→b.n=a.n:=fun x y z u=>by
    have:=k2 x
    rwa[if_neg (by intro e;rcases e with e | e | e;exact y e;exact z e;exact u e)] at this
   show Step Q r cs cs' (if a.op=11 then prim F a.n l cs else if a.op=4∧a.n=0∧a.v.length=l.length then (match a.t with | [b]=>(letT a.v (l++[b]),cs) | _=>(mk o n v (a::l),cs)) else (mk o n v (a::l),cs))
    (if b.op=11 then prim F b.n k cs' else if b.op=4∧b.n=0∧b.v.length=k.length then (match b.t with | [c]=>(letT b.v (k++[c]),cs') | _=>(mk o n' (v.map r) (b::k),cs')) else (mk o n' (v.map r) (b::k),cs'))
   rw[k0]
   by_cases h11:a.op=11
   ·rw[if_pos h11,if_pos h11,hbn (by omega) (by omega) (by omega) (by omega)]
    exact sim_prim hQ F _ hI g2
   ·rw[if_neg h11,if_neg h11]
    by_cases h4':a.op=4
    ·rw[hbn (by omega) (by omega) (by omega) (by omega),k3,List.length_map,g2.len]
     by_cases hc:a.op=4∧a.n=0∧a.v.length=l.length
     ·rw[if_pos hc,if_pos hc]
      cases ha:a.t with
      | nil=>rw[ha] at k4;rw[SimL.none _ k4];exact self
      | cons c d=>
       rw[ha] at k4
       obtain ⟨c',d',e,m1,m2⟩:=k4.uncons
       rw[e]
       cases d with
       | nil=>
        rw[SimL.none _ m2]
        exact Step.same (sim_let hr _ (SimL.app g2 (SimL.one m1)))
       | cons d1 d2=>
        obtain ⟨f1,f2,rfl,_,_⟩:=m2.uncons
        exact self
     ·rw[if_neg hc,if_neg hc]
      exact self
    ·rw[if_neg (fun e=>h4' e.1),if_neg (fun e=>h4' e.1)]
     exact self
 rw[if_neg ho,if_neg ho]
 by_cases ho:o=3
 ·rw[if_pos ho,if_pos ho]
  cases t with
  | nil=>rw[SimL.none _ h4] at self ⊢;exact self
  | cons a l=>
  obtain ⟨a',l',rfl,g1,g2⟩:=h4.uncons
  cases l with
  | nil=>rw[SimL.none _ g2] at self ⊢;exact self
  | cons b l=>
  obtain ⟨b',l2',rfl,g3,g4⟩:=g2.uncons
  cases l with
  | nil=>rw[SimL.none _ g4] at self ⊢;exact self
  | cons c l=>
  obtain ⟨c',l3',rfl,g5,g6⟩:=g4.uncons
  cases l with
  | cons d l=>obtain ⟨d',l4',rfl,_,_⟩:=g6.uncons;exact self
  | nil=>
  rw[SimL.none _ g6] at self ⊢
  obtain ⟨k0,k1,_⟩:=g1.open
  show Step Q r cs cs' (if a.op=0 then (match cs[a.n.toNat]? with | some d=>if d.kind=1∧d.n=0 then (c,cs) else (b,cs) | none=>(mk o n v [a,b,c],cs)) else if a.op=11∨a.op=4 then (b,cs) else (mk o n v [a,b,c],cs))
   (if a'.op=0 then (match cs'[a'.n.toNat]? with | some d=>if d.kind=1∧d.n=0 then (c',cs') else (b',cs') | none=>(mk o n' (v.map r) [a',b',c'],cs')) else if a'.op=11∨a'.op=4 then (b',cs') else (mk o n' (v.map r) [a',b',c'],cs'))
  rw[k0]
  by_cases h0:a.op=0
  ·rw[if_pos h0,if_pos h0,←hQ.get (k1 h0)]
   cases cs[a.n.toNat]? with
   | none=>exact self
   | some d=>
    show Step Q r cs cs' (if d.kind=1∧d.n=0 then (c,cs) else (b,cs)) (if d.kind=1∧d.n=0 then (c',cs') else (b',cs'))
    split
    ·exact Step.same g5
    ·exact Step.same g3
  ·rw[if_neg h0,if_neg h0]
   split
   ·exact Step.same g3
   ·exact self
 rw[if_neg ho,if_neg ho]
 by_cases ho:o=10
 ·rw[if_pos ho,if_pos ho,hn (by omega) (by omega) (by omega) (by omega)]
  exact sim_prim hQ F _ hI h4
 rw[if_neg ho,if_neg ho]
 by_cases ho:o=6
 ·rw[if_pos ho,if_pos ho]
  exact Step.same (sim_seq h4)
 rw[if_neg ho,if_neg ho]
 by_cases ho:o=8
 ·rw[if_pos ho,if_pos ho]
  exact Step.same (sim_let hr v h4)
 rw[if_neg ho,if_neg ho]
 by_cases ho:o=9
 ·rw[if_pos ho,if_pos ho,List.length_map]
  cases hl:t[v.length]? with
  | none=>rw[h4.out _ hl];exact self
  | some x=>
   obtain ⟨y,hy,hxy⟩:=h4.at _ x hl
   rw[hy]
   show Step Q r cs cs' (if v.any (fun u=>named u x) then (mk o n v t,cs) else (x,cs)) (if (v.map r).any (fun u=>named u y) then (mk o n' (v.map r) t',cs') else (y,cs'))
   rw[sim_any hr hxy]
   split
   ·exact self
   ·exact Step.same hxy
 rw[if_neg ho,if_neg ho]
 by_cases ho:o=12
 ·rw[if_pos ho,if_pos ho]
  cases t with
  | nil=>rw[SimL.none _ h4] at self ⊢;exact self
  | cons a l=>
  obtain ⟨a',l',rfl,g1,g2⟩:=h4.uncons
  cases l with
  | cons d l=>obtain ⟨d',l4',rfl,_,_⟩:=g2.uncons;exact self
  | nil=>
  rw[SimL.none _ g2] at self ⊢
  show Step Q r cs cs' (if value a then (a,cs) else (mk o n v [a],cs)) (if value a' then (a',cs') else (mk o n' (v.map r) [a'],cs'))
  rw[(sim_idle g1).2.2]
  split
  ·exact Step.same g1
  ·exact self
 rw[if_neg ho,if_neg ho]
 exact self
theorem Step.then {cs cs':List Dat} (_hQ:QOk I Q) (_hI:I cs cs') {a:List Dat} {p p':Trm × List Dat} (h:Step Q r (cs++a) (cs'++a) p p'):Step Q r cs cs' p p':=by
 obtain ⟨b,h1,h2,h3⟩:=h
 exact ⟨a++b,by rw[h1,List.append_assoc],by rw[h2,List.append_assoc],by simpa only[List.append_assoc] using h3⟩
theorem sim_term (hQ:QOk I Q) (hr:∀a b,r a=r b→a=b) (F:Int→List Dat→Option Dat):∀(x y:Trm) (cs cs':List Dat),I cs cs'→Sim (Q cs cs') r x y→Step Q r cs cs' (term F x cs) (term F y cs'):=by
 intro x
 induction x using Trm.ind with
 | h o n v t ih=>
  intro y cs cs' hI h
  obtain ⟨o',n',v',t'⟩:=y
  obtain ⟨h0,h1,h2,h3,h4⟩:=h.open
  replace h0:o'=o:=h0
  replace h3:v'=v.map r:=h3
  subst h0 h3
  have key:∀(l m:List Trm) (cs cs':List Dat),(∀x∈l,∀(y:Trm) (cs cs':List Dat),I cs cs'→Sim (Q cs cs') r x y→Step Q r cs cs' (term F x cs) (term F y cs'))→I cs cs'→SimL (Q cs cs') r l m →
    ∃a,(termL F l cs).2=cs++a∧(termL F m cs').2=cs'++a∧SimL (Q (cs++a) (cs'++a)) r (termL F l cs).1 (termL F m cs').1:=fun l=>by
   induction l with
   | nil=>intro m cs cs' _ _ h;rw[SimL] at h;subst h;exact ⟨[],by rw[termL,List.append_nil],by rw[termL,List.append_nil],by rw[termL,termL,SimL]⟩
   | cons x l ihl=>
    intro m cs cs' hx hI h
    obtain ⟨y,k,rfl,g1,g2⟩:=h.uncons
    obtain ⟨a,e1,e2,e3⟩:=hx x (by simp) y cs cs' hI g1
    obtain ⟨b,f1,f2,f3⟩:=ihl k (cs++a) (cs'++a) (fun z hz=>hx z (List.mem_cons_of_mem _ hz)) (hQ.grow a hI) (simL_mono (fun _ _=>hQ.more a) l k g2)
    refine ⟨a++b,?_,?_,?_⟩
    ·rw[termL,e1,f1,List.append_assoc]
    ·rw[termL,e2,f2,List.append_assoc]
    ·rw[termL,termL,e1,e2]
     rw[←List.append_assoc,←List.append_assoc]
     exact SimL.cons (sim_mono (fun _ _=>hQ.more b) _ _ e3) f3
  obtain ⟨a,e1,e2,e3⟩:=key t t' cs cs' ih hI h4
  rw[term,term,e1,e2]
  exact Step.then hQ hI (sim_post hQ hr F (hQ.grow a hI) (Sim.close rfl (fun e=>hQ.more a (h1 e)) h2 rfl e3))
end Fd
end
section
open Go Go.RowKit
namespace Fd
open Trm
theorem bndL_app (l m:List Trm):bndL (l++m)=bndL l++bndL m:=by
 induction l with
 | nil=>simp[bndL]
 | cons x l ih=>rw[List.cons_append,bndL,bndL,ih,List.append_assoc]
theorem lets_wf {nc nk:Int} {fr:Bool} {sc:Int→Bool} (last:Trm) (rest:List Trm):∀(vs:List Int) (r:List Trm),vs.length=r.length→AllW nc nk fr sc r →
  (∀p∈(lets last vs (r++rest)).1,light p.2=true∧wf nc nk fr p.2 sc=true)∧AllW nc nk fr sc (lets last vs (r++rest)).2.2∧(lets last vs (r++rest)).2.1.length=(lets last vs (r++rest)).2.2.length ∧
  (∀n,n∈vs→named n last=true→(lets last vs (r++rest)).1.lookup n=none→n∈(lets last vs (r++rest)).2.1) ∧
  (∀a,(lets last vs (r++rest)).2.1.count a≤vs.count a∧(bndL (lets last vs (r++rest)).2.2).count a≤(bndL r).count a)
 | [],r,h,_=>by
  have:r=[]:=List.length_eq_zero_iff.1 h.symm
  subst this
  unfold lets
  exact ⟨(fun p hp=>by simp at hp),(fun y hy=>by simp at hy),rfl,(fun n hn=>by simp at hn),fun a=>⟨Nat.le_refl _,Nat.le_refl _⟩⟩
 | v::vs,[],h,_=>by simp at h
 | v::vs,x::r,h,hw=>by
  obtain ⟨i1,i2,i3,i4,i5⟩:=lets_wf last rest vs r (by simpa using h) (fun y hy=>hw y (List.mem_cons_of_mem _ hy))
  have e0:lets last (v::vs) (x::r++rest)=if light x then ((v,x)::(lets last vs (r++rest)).1,(lets last vs (r++rest)).2) else if !idle x || named v last then ((lets last vs (r++rest)).1,v::(lets last vs (r++rest)).2.1,x::(lets last vs (r++rest)).2.2) else lets last vs (r++rest):=by
   conv=>lhs;rw[List.cons_append];unfold lets
  have hc:∀a,vs.count a≤(v::vs).count a:=fun a=>List.count_le_count_cons
  have hb:∀a,(bndL r).count a≤(bndL (x::r)).count a:=fun a=>by rw[bndL,List.count_append];omega
  rw[e0]
  by_cases hl:light x=true
  ·rw[if_pos hl]
   refine ⟨fun p hp=>?_,i2,i3,fun n hn hm hk=>?_,fun a=>⟨Nat.le_trans (i5 a).1 (hc a),Nat.le_trans (i5 a).2 (hb a)⟩⟩
   ·rcases List.mem_cons.1 hp with rfl | hp
    ·exact ⟨hl,hw x (by simp)⟩
    ·exact i1 p hp
   ·rw[List.lookup_cons] at hk
    by_cases e:n=v
    ·subst e
     simp at hk
    ·have e2:(n==v)=false:=by simpa using e
     simp only[e2] at hk
     exact i4 n ((List.mem_cons.1 hn).resolve_left e) hm hk
  ·rw[if_neg hl]
   by_cases hi:(!idle x || named v last)=true
   ·rw[if_pos hi]
    refine ⟨i1,fun y hy=>?_,by simp[i3],fun n hn hm hk=>?_,fun a=>⟨?_,?_⟩⟩
    ·rcases List.mem_cons.1 hy with rfl | hy
     ·exact hw y (by simp)
     ·exact i2 y hy
    ·rcases List.mem_cons.1 hn with rfl | hn
     ·simp
     ·exact List.mem_cons_of_mem _ (i4 n hn hm hk)
    ·have:=(i5 a).1
     simp only[List.count_cons]
     omega
    ·have:=(i5 a).2
     show (bndL (x::(lets last vs (r++rest)).2.2)).count a≤_
     rw[bndL,bndL,List.count_append,List.count_append]
     omega
   ·rw[if_neg hi]
    refine ⟨i1,i2,i3,fun n hn hm hk=>?_,fun a=>⟨Nat.le_trans (i5 a).1 (hc a),Nat.le_trans (i5 a).2 (hb a)⟩⟩
    rcases List.mem_cons.1 hn with rfl | hn
    ·rw[hm,Bool.or_true] at hi
     exact absurd rfl hi
    ·exact i4 n hn hm hk
theorem put_bnd {b:List (Int × Trm)} (hb:∀p∈b,p.2.bnd=[]) (a:Int):∀x:Trm,(put b x).bnd.count a≤x.bnd.count a:=by
 intro x
 induction x using Trm.ind with
 | h o n v t ih=>
  have key:∀l:List Trm,(∀y∈l,(put b y).bnd.count a≤y.bnd.count a)→(bndL (putL b l)).count a≤(bndL l).count a:=fun l=>by
   induction l with
   | nil=>intro _;exact Nat.le_refl _
   | cons y l ihl=>
    intro hy
    have h1:=hy y (by simp)
    have h2:=ihl fun z hz=>hy z (List.mem_cons_of_mem _ hz)
    rw[putL,bndL,bndL,List.count_append,List.count_append]
    omega
  have hk:=key t ih
  have hsame:(mk o n v (putL b t)).bnd.count a≤(mk o n v t).bnd.count a:=by rw[bnd,bnd,List.count_append,List.count_append];omega
  unfold put
  split
  ·split
   ·rename_i y hy
    obtain ⟨p,hp⟩:=look_mem hy
    rw[show y.bnd=[] from hb _ hp]
    exact Nat.zero_le _
   ·exact hsame
  ·exact hsame
theorem light_bnd {nc nk:Int} {fr:Bool} {x:Trm} {sc:Int→Bool} (h:wf nc nk fr x sc=true) (hl:light x=true):x.bnd=[]:=by
 obtain ⟨h1,h2⟩:=light_bare h hl
 obtain ⟨o,n,v,t⟩:=x
 replace h1:v=[]:=h1
 replace h2:t=[]:=h2
 subst h1 h2
 rfl
theorem lookup_app {n:Int}:∀{b c:List (Int × Trm)},(b++c).lookup n=none→b.lookup n=none∧c.lookup n=none
 | [],c,h=>⟨rfl,h⟩
 | p::b,c,h=>by
  rw[List.cons_append,List.lookup_cons] at h
  rw[List.lookup_cons]
  split at h
  ·cases h
  ·exact lookup_app h
theorem lookup_rev {n:Int}:∀{b:List (Int × Trm)},b.reverse.lookup n=none→b.lookup n=none
 | [],_=>rfl
 | p::b,h=>by
  rw[List.reverse_cons] at h
  obtain ⟨h1,h2⟩:=lookup_app h
  rw[List.lookup_cons] at h2 ⊢
  split at h2
  ·cases h2
  ·exact lookup_rev h1
theorem letT_wf {nc nk:Int} {fr:Bool} {sc:Int→Bool} {vs:List Int} {r:List Trm} {last:Trm} (hl:vs.length=r.length) (hr:AllW nc nk fr sc r) (hw:wf nc nk fr last (addV sc vs)=true) :
  wf nc nk fr (letT vs (r++[last])) sc=true∧∀a,(letT vs (r++[last])).bnd.count a≤(vs++bndL (r++[last])).count a:=by
 have hg:(r++[last])[vs.length]?=some last:=by rw[hl];simp
 obtain ⟨h1',h2,h3,h4',h5⟩:=lets_wf last [last] vs r hl hr
 have h1:∀p∈(lets last vs (r++[last])).1.reverse,light p.2=true∧wf nc nk fr p.2 sc=true:=fun p hp=>h1' p (List.mem_reverse.1 hp)
 have h4:∀n,n∈vs→named n last=true→(lets last vs (r++[last])).1.reverse.lookup n=none→n∈(lets last vs (r++[last])).2.1:=fun n a b c=>h4' n a b (lookup_rev c)
 have e1:letT vs (r++[last])=if (lets last vs (r++[last])).2.1.isEmpty=true then put (lets last vs (r++[last])).1.reverse last else mk 8 0 (lets last vs (r++[last])).2.1 ((lets last vs (r++[last])).2.2++[put (lets last vs (r++[last])).1.reverse last]):=by unfold letT;rw[hg]
 have hp:=fun a=>put_bnd (b:=(lets last vs (r++[last])).1.reverse) (fun p hp=>light_bnd (h1 p hp).2 (h1 p hp).1) a last
 have hin:∀n,named n last=true→addV sc vs n=true→(lets last vs (r++[last])).1.reverse.lookup n=none→addV sc (lets last vs (r++[last])).2.1 n=true:=fun n hm hs hk=>by
  simp only[addV,Bool.or_eq_true,List.contains_iff_mem] at hs ⊢
  exact hs.imp_right fun h=>h4 n h hm hk
 rw[e1]
 by_cases he:(lets last vs (r++[last])).2.1.isEmpty=true
 ·rw[if_pos he]
  refine ⟨put_wf (Int.le_refl _) last _ sc hw h1 fun n hm hs hk=>?_,fun a=>?_⟩
  ·have:=hin n hm hs hk
   rwa[List.isEmpty_iff.1 he,addV_nil] at this
  ·have:=hp a
   rw[bndL_app,bndL,bndL,List.append_nil,List.count_append,List.count_append]
   omega
 ·rw[if_neg he]
  refine ⟨wf_close (by decide) (by simp[countsB,h3]) (by simp[numberB]) ((wfL_snoc (by decide)).2 ⟨h2,put_wf (Int.le_refl _) last _ _ hw (fun p hp=>⟨(h1 p hp).1,light_mono (Int.le_refl _) (h1 p hp).1 (addV_le) (h1 p hp).2⟩) hin⟩),fun a=>?_⟩
  have:=hp a
  obtain ⟨k1,k2⟩:=h5 a
  simp only[bnd,bndL_app,bndL,List.append_nil,List.count_append]
  omega
theorem flat_bnd (a:Int):∀l:List Trm,(bndL (flat l)).count a≤(bndL l).count a
 | []=>Nat.le_refl _
 | x::l=>by
  have ih:=flat_bnd a l
  unfold flat
  split
  ·obtain ⟨o,n,v,t⟩:=x
   rw[bndL_app,bndL,bnd,List.count_append,List.count_append,List.count_append]
   show (bndL t).count a+_≤_
   omega
  ·rw[bndL,bndL,List.count_append,List.count_append]
   omega
theorem filter_bnd (a:Int) (p:Trm→Bool):∀l:List Trm,(bndL (l.filter p)).count a≤(bndL l).count a
 | []=>Nat.le_refl _
 | x::l=>by
  have ih:=filter_bnd a p l
  rw[List.filter_cons]
  split
  ·rw[bndL,bndL,List.count_append,List.count_append];omega
  ·rw[bndL,List.count_append];omega
theorem seq_bnd (a:Int) (l:List Trm):(seq l).bnd.count a≤(bndL l).count a:=by
 have hf:=flat_bnd a l
 have hsp:∀x,(flat l).getLast?=some x→(bndL (flat l)).count a=(bndL (flat l).dropLast).count a+x.bnd.count a:=fun x hx=>by
  obtain ⟨ys,hy⟩:=List.getLast?_eq_some_iff.1 hx
  rw[hy,bndL_app,bndL,bndL,List.append_nil,List.count_append]
  simp
 have hg:=filter_bnd a (fun x=>!idle x) (flat l).dropLast
 unfold seq
 split
 ·rename_i x _ hx
  have:=hsp x hx
  omega
 ·rename_i r x hx _
  have:=hsp x hx
  rw[bnd,bndL_app,bndL,bndL,List.append_nil,List.nil_append,List.count_append]
  omega
 ·exact Nat.zero_le _
theorem prim_bnd (F:Int→List Dat→Option Dat) (n:Int) (l:List Trm) (cs:List Dat) (a:Int):(prim F n l cs).1.bnd.count a≤(bndL l).count a:=by
 have hm:(mk 10 n [] l).bnd.count a≤(bndL l).count a:=by rw[bnd,List.nil_append];exact Nat.le_refl _
 unfold prim
 split
 ·exact hm
 ·split
  ·exact hm
  ·exact Nat.zero_le _
theorem bnd_mem (a:Int) {y:Trm} {l:List Trm} (h:y∈l):y.bnd.count a≤(bndL l).count a:=by
 induction l with
 | nil=>simp at h
 | cons x l ih=>
  rw[bndL,List.count_append]
  rcases List.mem_cons.1 h with rfl | h
  ·omega
  ·have:=ih h;omega
end Fd
end
section
open Go Go.RowKit
namespace Fd
open Trm
mutual
def cnt:Trm→Bool
 | mk op _ v t=>(!(op==8) || t.length==v.length+1)&&((!(op==10) || v.isEmpty)&&cntL t)
def cntL:List Trm→Bool
 | []=>true
 | x::l=>cnt x&&cntL l
end
theorem cntL_iff {l:List Trm}:cntL l=true↔∀y∈l,cnt y=true:=by
 induction l with
 | nil=>simp[cntL]
 | cons x l ih=>simp[cntL,ih]
variable {F : Int → List Dat → Option Dat}
end Fd
end
end Go.Proofs.YtgbibibmpoekiaaGreatDoor
