/-
  What the proofs lean on: TrG, Fd9, Does2C.
-/
import Derived.WalkSpells
import Derived.Deep.AppendLies
import Derived.Test.YtgbibibmpoekiaaGreatDoorShfA11
import Derived.Test.YtgbibibmpoekiaaGreatDoorShfA19
import Derived.Test.YtgbibibmpoekiaaGreatDoorShfA20
set_option maxRecDepth 100000
set_option maxHeartbeats 16000000
namespace Go.Proofs.YtgbibibmpoekiaaGreatDoor
section
open Go Go.RowKit
theorem info_termS:(Tryz.prog.info? 26).map (fun i=>(i.zero,i.size,i.bytes))=some (some (.agg #[.int .i64 0,.int .i64 0,.slice none 0 0,.slice none 0 0]),4,64):=by kernel_rfl
theorem newsT {α:Type} {w:World} {size:Nat} {R:α→List Value→Prop} {b:Nat}:∀(l:List α) (off:Nat),(∀i x,l[i]?=some x→∃cs:List Value,cs.length=size∧(∀j u,cs[j]?=some u→w.cell? ⟨b,off+i*size+j,none⟩=some u)∧R x cs)→∃xs,CellsG size R l xs∧∀j u,xs[j]?=some u→w.cell? ⟨b,off+j,none⟩=some u
 | [],_,_=>⟨[],rfl,fun j u h=>by simp at h⟩
 | x::l,off,h=>by
  obtain ⟨cs,h1,h2,h3⟩:=h 0 x rfl
  obtain ⟨r,g1,g2⟩:=newsT l (off+size) fun i y hy=>by
   obtain ⟨ds,k1,k2,k3⟩:=h (i+1) y (by simpa using hy)
   refine ⟨ds,k1,fun j u hj=>?_,k3⟩
   have:=k2 j u hj
   rwa[show off+(i+1)*size+j=off+size+i*size+j by rw[Nat.add_mul];omega] at this
  refine ⟨cs++r,⟨cs,r,rfl,h1,h3,g1⟩,fun j u hj=>?_⟩
  by_cases hlt:j<size
  ·rw[List.getElem?_append_left (by omega)] at hj
   have:=h2 j u hj
   rwa[Nat.zero_mul,Nat.add_zero] at this
  ·rw[List.getElem?_append_right (by omega),h1] at hj
   have:=g2 _ u hj
   rwa[show off+size+(j-size)=off+j by omega] at this
theorem CellsG.append {α:Type} {size:Nat} {R:α→List Value→Prop} {k:List α} {ys:List Value} (hk:CellsG size R k ys):∀{l:List α} {xs:List Value},CellsG size R l xs→CellsG size R (l++k) (xs++ys)
 | [],_,h=>by rw[CellsG] at h;subst h;exact hk
 | _::l,_,⟨cs,r,he,hs,hx,hr⟩=>⟨cs,r++ys,by rw[he,List.append_assoc],hs,hx,CellsG.append hk hr⟩
theorem trmR_form {w:World} {B:Nat} {x:Trm} {cs:List Value} (h:TrmR w B x cs):∃q r u q' r' u',cs=[.int .i64 x.op,.int .i64 x.n,.slice q r u,.slice q' r' u']∧I64 x.op∧I64 x.n∧SlC w B 1 IntR x.v (.slice q r u)∧TrmS w B x.t (.slice q' r' u'):=by
 obtain ⟨o,n,v,t⟩:=x
 obtain ⟨vs,ts,rfl,h1,h2,h3,h4⟩:=trmR_iff.1 h
 obtain ⟨q,r,u,rfl⟩:=h3.form
 obtain ⟨q',r',u',rfl⟩:=SlC.form h4
 exact ⟨_,_,_,_,_,_,rfl,h1,h2,h3,h4⟩
theorem trms_one {w:World} {B:Nat}:∀{l:List Trm} {xs:List Value},CellsG 4 (TrmR w B) l xs→∀u∈xs,u.oneCell'=true
 | [],_,h,u,hu=>by rw[CellsG] at h;subst h;cases hu
 | x::l,xs,⟨cs,r,he,_,hc,hr⟩,u,hu=>by
  subst he
  obtain ⟨q,r0,u0,q',r',u',rfl,_⟩:=trmR_form hc
  rcases List.mem_append.1 hu with hu | hu
  ·simp only[List.mem_cons,List.not_mem_nil,or_false] at hu
   rcases hu with rfl | rfl | rfl | rfl<;>rfl
  ·exact trms_one hr u hu
theorem wp_growT {W:World} {S:Nat→Prop} {o:Oper} {a:Act} {K:Act→World→Prop} {Q:Exit→Act→World→Prop} (s x:Operand)
  (ho:o.op=.call { callee:=.builtin .append,args:=#[s,x],argTypes:=#[24,24] }) (base:Nat) (v xv:Value) (l k:List Trm) (hs:a.eval s=v) (hg:Hid (GrownT 26 W S base l v)) (hx:a.eval x=xv) (hk:Hid (TrmS (hide W (SR S v)) W.heap.size k xv))
  (hm:l.length+k.length≤1000000)
  (h:∀o' len' cap' w',Hid (GrownT 26 w' S base (l++k) (.slice o' len' cap'))→Hid (Below base W w')→Hid (Turned (fun b=>v.ownBlock=some b) W w')→Hid (Shown W (SR S v) w' (SR S (.slice o' len' cap')))→K (a.put o.dst (.slice o' len' cap')) w') :
  o.wp Tryz.prog a W K Q:=by
 obtain ⟨hS,hap,hb,xs,h1,h2⟩:=hg.out
 obtain ⟨ox,lenx,capx,rfl,hlx,hcx,hmx,hrx⟩:=hk.out
 obtain ⟨i0,hi,hz0,hz1,hz2⟩:=info_parts info_termS
 cases k with
 | nil=>
  obtain ⟨ov,lenv,capv,rfl,hlc,hlv⟩:=GrownT.form hg.out
  have h0:lenx=0:=by simpa using hlx
  subst h0
  have hr:∀ty,(Builtin.append_ #[24,24] ty #[.slice ov lenv capv,.slice ox 0 capx]).run Tryz.prog W=.ok (.slice ov lenv capv) W:=fun ty=>by
   have hle:lenv+0≤capv:=by omega
   cases ov<;>cases ox<;>simp[go_sem,Builtin.append_,hlc,Builtin.firstCells,storeCells,Builtin.lenOf]
  unfold Oper.wp execOp
  simp only[ho,resolve,invoke,builtin,Sem.run_bind,Sem.run_pure,Result.andThen_ok,List.map_toArray,List.map_cons,List.map_nil,hs,hx,hr]
  exact h _ _ _ _ (by rw[List.append_nil];exact hg) (Lib.hid (Below.refl _ _)) (Lib.hid (Turned.refl _ _)) (Lib.hid (Shown.less W fun _ _ h=>h))
 | cons y k=>
  cases ox with
  | none=>exact absurd hrx.1 (by simp)
  | some ad=>
   obtain ⟨hsp,hblk⟩:=hrx.1 (by simp)
   obtain ⟨blk,off,sp⟩:=ad
   obtain rfl:sp=none:=hsp
   obtain ⟨ys,k1,k2⟩:=newsT (y::k) off hrx.2
   refine wp_append_lies W s x 24 ho base 26 i0 (.agg #[.int .i64 0,.int .i64 0,.slice none 0 0,.slice none 0 0]) 4 64 Tryz.underlying24 hi hz0 hz1 hz2 rfl (by decide) v l.length xs hs h1 ⟨blk,off,none⟩ lenx capx ys hx (by rw[k1.length,hlx]) (fun j u hu=>by have:=(hide_some (k2 j u hu)).2;rcases j with _ | j<;>simpa[Addr.add] using this) (trms_one k1) (by rw[hlx];simp) (by rw[hlx];unfold maxLen;simp only[List.length_cons] at hm ⊢;omega) (by rw[hlx];omega) hb W.heap.size rfl ?_
   intro g cap w' m1 m2 m3 m4
   have ht:Turned (fun b=>v.ownBlock=some b) W w':=Turned.grown m2 fun b hb=>hb
   have hbl:Below base W w':=by
    refine ⟨m2.os,m2.tape,m2.output,m2.size,fun c hc=>m2.block c (by omega) fun e=>?_⟩
    have:=(h1.lt c e.symm).1
    omega
   have sh:Shown W (SR S v) w' (SR S (.slice (some ⟨g,0,none⟩) (l.length+lenx) cap)):=by
    intro c o' u hc hu
    have hlt:=cell_lt hu
    refine ⟨fun hs'=>?_,(Shown.turned (S:=SR S v) ht (fun b _ hb=>.inr hb) c o' u hc hu).2⟩
    rcases hs' with hs' | hs'
    ·exact hc (.inl hs')
    ·simp only[Value.ownBlock,Option.some.injEq] at hs'
     subst hs'
     rcases m3 with m3 | m3
     ·exact hc (.inr m3)
     ·omega
   refine h _ _ _ _ (Lib.hid ⟨fun b hb=>Nat.lt_of_lt_of_le (hS b hb) m2.size,fun c hc hs=>?_,Nat.le_trans hb m2.size,xs++ys,?_,?_⟩) (Lib.hid hbl) (Lib.hid ht) (Lib.hid sh)
   ·simp only[Value.ownBlock,Option.some.injEq] at hc
    subst hc
    rcases m3 with m3 | m3
    ·exact hap _ m3 hs
    ·have:=hS _ hs
     omega
   ·rw[List.length_append,←hlx];exact m1
   ·exact CellsG.append (k1.mono fun _ _ _ hx=>hx.shown sh m2.size) (h2.mono fun _ _ _ hx=>hx.shown sh m2.size)
theorem cloneT_any (l:List Trm) (v:Value) (B B2:Nat) (w H:World) (hv:SlC w B 4 (TrmR H B2) l v) (hm:l.length≤1000000) :
  Calls Tryz.prog 69 #[v] w fun e w'=>∃v' xs,e=.returned v'∧w'.ownsRow w.heap.size 26 4 v' l.length xs∧CellsG 4 (TrmR H B2) l xs∧(∃o len cap,v'=.slice o len cap)∧Below w.heap.size w w':=by
 obtain ⟨o,len,cap,rfl,hlen,hcap,hmax,h4⟩:=hv
 have HL:=Lib.hid hlen
 have hm':len≤1000000:=by omega
 cases o with
 | none=>
  obtain ⟨rfl,rfl⟩:=h4
  simp at hlen
  subst hlen
  clear HL
  have he:=fun (w:World)=>Lib.run_eql_slice_nil (P:=Tryz.prog) w 24 26 none 0 0 0 0 Tryz.underlying24
  go_enter Tryz.func69,Tryz.ntmps69
  go_wp2_with fail
  go_ret
  exact ⟨_,[],rfl,World.ownsRow_nil _ _ _ _,rfl,⟨_,_,_,rfl⟩,Below.refl _ _⟩
 | some a=>
  obtain ⟨xs,hc,hr⟩:=newsT l a.off h4.2
  have hxl:=hc.length
  have hcell:∀j u,xs[j]?=some u→w.cell? (a.add j)=some u:=fun j u hj=>by
   have hne:l≠[]:=fun h=>by
    have h1:=(List.getElem?_eq_some_iff.1 hj).1
    rw[hxl,h] at h1
    simp at h1
   rw[add_none (h4.1 hne).1]
   exact hr j u hj
  have he:=fun (w:World)=>Lib.run_eql_slice_nil (P:=Tryz.prog) w 24 26 (some a) len cap 0 0 Tryz.underlying24
  have HO:=Lib.hid (ownsRow_new (W:=w) (b:=w.heap.size) (base:=w.heap.size) rfl (Nat.le_refl _) 26 4 0 [] rfl (by unfold maxLen;omega))
  obtain ⟨i0,hi,hz0,hz1,hz2⟩:=info_parts info_termS
  have HXL:=Lib.hid (show xs.length=len*4 from by rw[hxl,←hlen])
  have HC:=Lib.hid hc
  have HCELL:=Lib.hid (show ∀j u,xs[j]?=some u→(w.alloc (.cells [].toArray 26)).cell? (a.add j)=some u from fun j u hj=>by
   have h:=hcell j u hj
   have hsp:=cell_spot h
   rw[show (a.add j)=⟨(a.add j).block,(a.add j).off,(a.add j).spot⟩ from rfl,hsp.1] at h ⊢
   exact keepC (Below.one w _) h)
  clear hlen hxl hc hr hcell h4
  go_enter Tryz.func69,Tryz.ntmps69
  go_wp2_with (at_builtin;refine wpList_append_own _ rfl (.tmp 5) (.tmp 6) 24 rfl w.heap.size 26 i0 (.agg #[.int .i64 0,.int .i64 0,.slice none 0 0,.slice none 0 0]) 4 64 Tryz.underlying24 hi hz0 hz1 hz2 rfl (by decide) (.slice (some ⟨w.heap.size,0,none⟩) 0 0) 0 [] rfl HO.out a len cap xs rfl HXL.out HCELL.out (trms_one HC.out) (by unfold maxLen;omega) (by omega) (by simp) ?_)
  intro v' w2 hown hgrow _
  have HR:=Lib.hid (show w2.ownsRow w.heap.size 26 4 v' l.length xs from by rw[←HL.out];simpa using hown)
  have HB:=Lib.hid (show Below w.heap.size w w2 from (Below.one w _).grown hgrow (by simp) (fun g hg=>by simp[Value.ownBlock] at hg;omega))
  obtain ⟨o',l',c',rfl⟩:∃o' l' c',v'=.slice o' l' c':=by
   rcases hown.2 with ⟨h,_⟩ | ⟨g,cap,cur,h,_⟩
   ·exact ⟨_,_,_,h⟩
   ·exact ⟨_,_,_,h⟩
  clear hown hgrow
  go_wp2_with fail
  go_ret
  exact ⟨_,xs,rfl,HR.out,HC.out,⟨_,_,_,rfl⟩,HB.out⟩
end
section
open Go Go.RowKit
namespace Fd
open Trm
def Fine (nk:Int) (fr:Bool) (sc:Int→Bool) (x:Trm) (p:Trm × List Dat):Prop:=wf p.2.length nk fr p.1 sc=true∧∀a,p.1.bnd.count a≤x.bnd.count a
theorem op_seq {nc nk:Int} {fr:Bool} {sc:Int→Bool} {y:Trm} (h:wf nc nk fr y sc=true) (ho:y.op=6):y.t≠[]:=by
 obtain ⟨o,n,v,t⟩:=y
 replace ho:o=6:=ho
 subst ho
 obtain ⟨_,h1,_⟩:=wf_open h
 simp[countsB] at h1
 intro e
 replace e:t=[]:=e
 subst e
 simp at h1
theorem split_last {t:List Trm} {n:Nat} (h:t.length=n+1):∃r last,t=r++[last]∧r.length=n:=by
 rcases List.eq_nil_or_concat t with rfl | ⟨r,x,rfl⟩
 ·simp at h
 ·exact ⟨r,x,by simp,by simpa using h⟩
theorem post_fine {nk:Int} {fr:Bool} {F:Int→List Dat→Option Dat} {op n:Int} {v:List Int} {t:List Trm} {cs:List Dat} {sc:Int→Bool} (h:wf cs.length nk fr (mk op n v t) sc=true):Fine nk fr sc (mk op n v t) (post F op n v t cs):=by
 obtain ⟨h0,h1,h2,h3⟩:=wf_open h
 have self:Fine nk fr sc (mk op n v t) (mk op n v t,cs):=⟨h,fun _=>Nat.le_refl _⟩
 have bnds:∀y∈t,∀a,y.bnd.count a≤(mk op n v t).bnd.count a:=fun y hy a=>by
  have:=bnd_mem a hy
  rw[bnd,List.count_append]
  omega
 have plain:op≠4→op≠8→op≠9→v=[]:=fun a b c=>by
  have h1:=h1
  unfold countsB at h1
  rw[if_neg (by omega),if_neg a] at h1
  simp only[Bool.and_eq_true,decide_eq_true_eq] at h1
  exact List.length_eq_zero_iff.1 h1.1
 unfold post
 by_cases ho:op=5
 ·rw[if_pos ho]
  subst ho
  have hv:=plain (by decide) (by decide) (by decide)
  subst hv
  have ha:=(wfL_all (by decide)).1 h3
  cases t with
  | nil=>exact self
  | cons hd r=>
   have hr:AllW cs.length nk fr sc r:=fun y hy=>ha y (List.mem_cons_of_mem _ hy)
   have hh:=ha hd (by simp)
   show Fine nk fr sc (mk 5 n [] (hd::r)) (if hd.op=11 then prim F hd.n r cs else if hd.op=4∧hd.n=0∧hd.v.length=r.length then (match hd.t with | [b]=>(letT hd.v (r++[b]),cs) | _=>(mk 5 n [] (hd::r),cs)) else (mk 5 n [] (hd::r),cs))
   by_cases h11:hd.op=11
   ·rw[if_pos h11]
    refine ⟨prim_wf ?_ hr,fun a=>?_⟩
    ·obtain ⟨o',n',v',t'⟩:=hd
     replace h11:o'=11:=h11
     subst h11
     obtain ⟨k0,k1,k2,k3⟩:=wf_open hh
     show 0≤n'∧n' < 31
     simpa[numberB] using k2
    ·have:=prim_bnd F hd.n r cs a
     rw[bnd,bndL,List.nil_append,List.count_append]
     omega
   ·rw[if_neg h11]
    by_cases hc:hd.op=4∧hd.n=0∧hd.v.length=r.length
    ·rw[if_pos hc]
     obtain ⟨o',n',v',t'⟩:=hd
     obtain ⟨k0,k1,k2,k3⟩:=wf_open hh
     obtain ⟨c1,c2,hl⟩:=hc
     replace c1:o'=4:=c1
     replace c2:n'=0:=c2
     replace hl:v'.length=r.length:=hl
     subst c1 c2
     cases t' with
     | nil=>exact self
     | cons b d=>
      cases d with
      | cons _ _=>exact self
      | nil=>
       obtain ⟨g1,g2⟩:=letT_wf hl hr (last:=b) (by rw[wfL] at k3;exact k3)
       refine ⟨g1,fun a=>?_⟩
       have:=g2 a
       simp only[bnd,bndL_app,bndL,List.append_nil,List.nil_append,List.count_append] at this ⊢
       show (letT v' (r++[b])).bnd.count a≤_
       omega
    ·rw[if_neg hc]
     exact self
 rw[if_neg ho]
 by_cases ho:op=3
 ·rw[if_pos ho]
  subst ho
  have hv:=plain (by decide) (by decide) (by decide)
  subst hv
  have ha:=(wfL_all (by decide)).1 h3
  have part:∀y∈t,Fine nk fr sc (mk 3 n [] t) (y,cs):=fun y hy=>⟨ha y hy,bnds y hy⟩
  split
  ·rename_i a b c
   split
   ·split
    ·split
     ·exact part c (by simp)
     ·exact part b (by simp)
    ·exact self
   ·split
    ·exact part b (by simp)
    ·exact self
  ·exact self
 rw[if_neg ho]
 by_cases ho:op=10
 ·rw[if_pos ho]
  subst ho
  have hv:=plain (by decide) (by decide) (by decide)
  subst hv
  refine ⟨prim_wf (by simpa[numberB] using h2) ((wfL_all (by decide)).1 h3),fun a=>?_⟩
  have:=prim_bnd F n t cs a
  rw[bnd,List.nil_append]
  omega
 rw[if_neg ho]
 by_cases ho:op=6
 ·rw[if_pos ho]
  subst ho
  have hv:=plain (by decide) (by decide) (by decide)
  subst hv
  have ha:=(wfL_all (by decide)).1 h3
  refine ⟨seq_wf (op_seq h rfl) ha fun y hy=>op_seq (ha y hy),fun a=>?_⟩
  have:=seq_bnd a t
  rw[bnd,List.nil_append]
  exact this
 rw[if_neg ho]
 by_cases ho:op=8
 ·rw[if_pos ho]
  subst ho
  obtain ⟨r,last,rfl,hl⟩:=split_last (n:=v.length) (by simpa[countsB] using h1)
  obtain ⟨k1,k2⟩:=(wfL_snoc (by decide)).1 h3
  obtain ⟨g1,g2⟩:=letT_wf hl.symm k1 k2
  exact ⟨g1,fun a=>by rw[bnd];exact g2 a⟩
 rw[if_neg ho]
 by_cases ho:op=9
 ·rw[if_pos ho]
  subst ho
  split
  ·rename_i last hl
   split
   ·exact self
   ·rename_i hx
    have hlen:t.length=v.length+1:=by simpa[countsB] using h1
    have hw:=(wfL_part h3 v.length last hl).1 (by omega)
    refine ⟨wf_move (Int.le_refl _) hw fun m hm hs=>?_,bnds last (List.mem_of_getElem? hl)⟩
    simp only[addV,Bool.or_eq_true,List.contains_iff_mem] at hs
    refine hs.resolve_right fun hv=>?_
    simp only[List.any_eq_true,not_exists,not_and] at hx
    exact hx m hv hm
  ·exact self
 rw[if_neg ho]
 by_cases ho:op=12
 ·rw[if_pos ho]
  subst ho
  have hv:=plain (by decide) (by decide) (by decide)
  subst hv
  have ha:=(wfL_all (by decide)).1 h3
  split
  ·rename_i a
   split
   ·exact ⟨ha a (by simp),bnds a (by simp)⟩
   ·exact self
  ·exact self
 rw[if_neg ho]
 exact self
theorem post_lam {F:Int→List Dat→Option Dat} {n:Int} {v:List Int} {t:List Trm} {cs:List Dat}:post F 4 n v t cs=(mk 4 n v t,cs):=by
 unfold post
 rw[if_neg (by decide),if_neg (by decide),if_neg (by decide),if_neg (by decide),if_neg (by decide),if_neg (by decide),if_neg (by decide)]
theorem term_lam {F:Int→List Dat→Option Dat} {x:Trm} {cs:List Dat} (h:x.op=4):(term F x cs).1.op=4:=by
 obtain ⟨o,n,v,t⟩:=x
 replace h:o=4:=h
 subst h
 rw[term,post_lam]
 rfl
theorem termL_more (F:Int→List Dat→Option Dat):∀(l:List Trm) (cs:List Dat),cs <+: (termL F l cs).2
 | [],_=>List.prefix_rfl
 | x::l,cs=>by rw[termL];exact (term_more F x cs).trans (termL_more F l _)
theorem pre_len {cs cs':List Dat} (h:cs <+: cs'):(cs.length:Int)≤cs'.length:=by
 have:=h.length_le
 omega
theorem term_fine {nk:Int} {fr:Bool} (F:Int→List Dat→Option Dat):∀(x:Trm) (sc:Int→Bool) (cs:List Dat),wf cs.length nk fr x sc=true→Fine nk fr sc x (term F x cs):=by
 intro x
 induction x using Trm.ind with
 | h o n v t ih=>
  intro sc cs h
  obtain ⟨h0,h1,h2,h3⟩:=wf_open h
  have key:∀(l:List Trm) (cs0 cs:List Dat),(∀y∈l,∀(sc:Int→Bool) (cs:List Dat),wf cs.length nk fr y sc=true→Fine nk fr sc y (term F y cs))→cs0 <+: cs→∀nc':Int,((termL F l cs).2.length:Int)≤nc' →
    All2 (fun x y=>(x.op=4→y.op=4)∧(wf cs0.length nk fr x sc=true→wf nc' nk fr y sc=true)∧(wf cs0.length nk fr x (addV sc v)=true→wf nc' nk fr y (addV sc v)=true)) l (termL F l cs).1:=fun l=>by
   induction l with
   | nil=>intro cs0 cs _ _ nc' _;rw[termL,All2]
   | cons y l ihl=>
    intro cs0 cs hy hp nc' hle
    have hm:=term_more F y cs
    have hm2:=termL_more F l (term F y cs).2
    rw[termL] at hle
    replace hle:((termL F l (term F y cs).2).2.length:Int)≤nc':=hle
    have hl2:=pre_len hm2
    rw[termL,All2]
    refine ⟨_,_,rfl,⟨term_lam,fun hw=>wf_more (by omega) (hy y (by simp) sc cs (wf_more (pre_len hp) hw)).1,fun hw=>wf_more (by omega) (hy y (by simp) _ cs (wf_more (pre_len hp) hw)).1⟩,ihl cs0 _ (fun z hz=>hy z (List.mem_cons_of_mem _ hz)) (hp.trans hm) nc' hle⟩
  have hA:=key t cs cs ih List.prefix_rfl _ (Int.le_refl _)
  have hlen:=termL_len F t cs
  have hw:wf (termL F t cs).2.length nk fr (mk o n v (termL F t cs).1) sc=true:=wf_close h0 (by rw[hlen];exact h1) (number_mono (pre_len (termL_more F t cs)) (fun _ h=>h) h2) (wfL_two hA h3)
  obtain ⟨g1,g2⟩:=post_fine (F:=F) hw
  rw[term]
  refine ⟨g1,fun a=>Nat.le_trans (g2 a) ?_⟩
  have kb:∀(l:List Trm) (cs0 cs:List Dat),(∀y∈l,∀(sc:Int→Bool) (cs:List Dat),wf cs.length nk fr y sc=true→Fine nk fr sc y (term F y cs))→cs0 <+: cs→(∀y∈l,∃sc,wf cs0.length nk fr y sc=true)→(bndL (termL F l cs).1).count a≤(bndL l).count a:=fun l=>by
   induction l with
   | nil=>intro cs0 cs _ _ _;exact Nat.le_refl _
   | cons y l ihl=>
    intro cs0 cs hy hp hex
    obtain ⟨s,hs⟩:=hex y (by simp)
    have k1:=(hy y (by simp) s cs (wf_more (pre_len hp) hs)).2 a
    have k2:=ihl cs0 (term F y cs).2 (fun z hz=>hy z (List.mem_cons_of_mem _ hz)) (hp.trans (term_more F y cs)) fun z hz=>hex z (List.mem_cons_of_mem _ hz)
    rw[termL,bndL,bndL,List.count_append,List.count_append]
    omega
  have hex:∀y∈t,∃s,wf cs.length nk fr y s=true:=by
   have:∀(l:List Trm),wfL cs.length nk fr o v l sc=true→∀y∈l,∃s,wf cs.length nk fr y s=true:=fun l=>by
    induction l with
    | nil=>intro _ y hy;simp at hy
    | cons x l ihl=>
     intro hw y hy
     cases l with
     | nil=>
      rw[List.mem_singleton.1 hy]
      rw[wfL] at hw
      exact ⟨_,hw⟩
     | cons z l=>
      rw[wfL,Bool.and_eq_true] at hw
      rcases List.mem_cons.1 hy with rfl | hy
      ·have hx:=hw.1
       split at hx
       ·rw[Bool.and_eq_true] at hx
        exact ⟨_,hx.2⟩
       ·exact ⟨_,hx⟩
      ·exact ihl hw.2 y hy
   exact this t h3
  have:=kb t cs cs ih List.prefix_rfl hex
  rw[bnd,bnd,List.count_append,List.count_append]
  omega
def okP (cs:List Dat) (x:Trm):Bool:=(cs.all fun d=>Dat.right d 0)&&(wf cs.length 0 false x (fun _=>false)&&newB (fun _=>false) x.bnd)
theorem term_data {F:Int→List Dat→Option Dat} (hF:∀n l d,F n l=some d→Dat.right d 0=true):∀(x:Trm) (cs:List Dat),(cs.all fun d=>Dat.right d 0)=true→((term F x cs).2.all fun d=>Dat.right d 0)=true:=by
 intro x
 induction x using Trm.ind with
 | h o n v t ih=>
  intro cs h
  have key:∀(l:List Trm) (cs:List Dat),(∀y∈l,∀cs:List Dat,(cs.all fun d=>Dat.right d 0)=true→((term F y cs).2.all fun d=>Dat.right d 0)=true)→(cs.all fun d=>Dat.right d 0)=true→((termL F l cs).2.all fun d=>Dat.right d 0)=true:=fun l=>by
   induction l with
   | nil=>intro cs _ h;exact h
   | cons y l ihl=>intro cs hy h;rw[termL];exact ihl _ (fun z hz=>hy z (List.mem_cons_of_mem _ hz)) (hy y (by simp) cs h)
  have h1:=key t cs ih h
  have hp:∀(n:Int) (l:List Trm) (cs:List Dat),(cs.all fun d=>Dat.right d 0)=true→((prim F n l cs).2.all fun d=>Dat.right d 0)=true:=fun n l cs h=>by
   unfold prim
   split
   ·exact h
   ·split
    ·exact h
    ·rename_i d hd
     show ((cs++[d]).all fun d=>Dat.right d 0)=true
     rw[List.all_append,h]
     simp[hF _ _ _ hd]
  rw[term]
  unfold post
  repeat' split
  all_goals first | exact h1 | exact hp _ _ _ h1
theorem term_ok {F:Int→List Dat→Option Dat} (hF:∀n l d,F n l=some d→Dat.right d 0=true) {x:Trm} {cs:List Dat} (h:okP cs x=true):okP (term F x cs).2 (term F x cs).1=true:=by
 unfold okP at h ⊢
 simp only[Bool.and_eq_true] at h ⊢
 obtain ⟨h1,h2,h3⟩:=h
 obtain ⟨g1,g2⟩:=term_fine F x _ cs h2
 refine ⟨term_data hF x cs h1,g1,?_⟩
 rw[newB_iff] at h3 ⊢
 refine ⟨fun a ha=>h3.1 a ?_,?_⟩
 ·have:=g2 a
  have hp:0<(term F x cs).1.bnd.count a:=List.count_pos_iff.2 ha
  exact List.count_pos_iff.1 (by omega)
 ·rw[List.nodup_iff_count]
  intro a
  have:=g2 a
  have:=(List.nodup_iff_count.1 h3.2) a
  omega
end Fd
end
section
open Go.RowKit
theorem does_9 (l:List Dat) (sl:Value) (B:Nat) (w:World) (hv:RepS w B l sl) (_hB:B≤w.heap.size) (hr:∀x∈l,Dat.right x 0=true) (hl:l.length=1) :
  Calls Tryz.prog 100 #[.int .i64 9,sl] w (EndPost B (Prims.does 9 l) w):=by
 obtain ⟨x,rfl⟩:∃x,l=[x]:=by
  match l,hl with
  | [x],_=>exact ⟨x,rfl⟩
 have hrx:=hr x (by simp)
 obtain ⟨o,len,cap,rfl,hlen,hcap,hmax⟩:=slice_of hv
 obtain rfl:len=1:=hlen
 obtain ⟨b,off,k,n,d,s,l',o',len',cap',ho,hx,e0,e1,e2,e3,e4,er⟩:=part_atS hv (Below.refl _ _) (j:=0) rfl
 subst ho hx
 simp only[Nat.zero_mul,Nat.add_zero] at e0 e1 e2 e3 e4
 have hbl:=cell_lt e0
 have ER:=Lib.hid er
 have HRX:=Lib.hid hrx
 obtain ⟨R,hR⟩:∃R,Prims.does 9 [Dat.mk k n d s l']=R:=⟨_,rfl⟩
 rw[hR]
 have HK:=Lib.hid (fun X Y=>((Below.refl w.heap.size w).alloc (Nat.le_refl _) X).alloc (by simp) Y)
 have HV:=Lib.hid hv
 clear hv er hrx hr hl
 obtain ⟨r,hr⟩:∃r,(k==4)=r:=⟨_,rfl⟩
 have HRR:=Lib.hid hr
 obtain ⟨rq,hrq⟩:∃rq:Int,(if r then (1:Int) else 0)=rq:=⟨_,rfl⟩
 have hrq0:0≤rq∧rq≤1:=by rw[←hrq];split<;>omega
 have HRQ:=Lib.hid hrq
 have HR:=Lib.hid (show (Dat.mk 1 rq 0 ⟨#[]⟩ [],(0:Int))=R by
  rw[←hrq];show (Prims.truth r,(0:Int))=R
  rw[←hR,←hr,show (k==4)=decide (k=4) from by rw[Bool.eq_iff_iff,beq_iff_eq,decide_eq_true_eq]];simp[Prims.does,Dat.kind,Prims.kinds])
 clear hR hrq
 go_enter Tryz.func100,Tryz.ntmps100
 have HN:=Lib.hid (ClsA.new w (.int .i64 k) (.int .i64 n) (.int .i64 d) (.string s) (.slice o' len' cap')).drew
 go_wp2_with fail
 refine wp_region_quiet_class (ClsA w (.int .i64 k) (.int .i64 n) (.int .i64 d) (.string s) (.slice o' len' cap')) 6 (by kernel_rfl) (by kernel_rfl) HN.out ?_
 intro T0 _ W HW HW2
 have g0:∀t,(W t).cell? _=_:=fun t=>(HW t).2.2.1.cells.1
 have g1:∀t,(W t).cell? _=_:=fun t=>(HW t).2.2.1.cells.2.1
 have g2:∀t,(W t).cell? _=_:=fun t=>(HW t).2.2.1.cells.2.2.1
 have g3:∀t,(W t).cell? _=_:=fun t=>(HW t).2.2.1.cells.2.2.2.1
 have g4:∀t,(W t).cell? _=_:=fun t=>(HW t).2.2.1.cells.2.2.2.2
 have HC0:Hid (∀t,Calls Tryz.prog 123 #[.int .i64 9] (W t) fun e w'=>e=.returned (.int .i64 4)∧∃t',w'=W t'):=Lib.hid (fun t=>(kind_any 9 (by omega) (by omega) (W t)).mono fun e w' h=>⟨h.1,HW2 _ ((HW t).next h.2)⟩)
 have HC1:Hid (∀t,Calls Tryz.prog 115 #[.bool r] (W t) fun e w'=>e=.returned (.agg #[.int .i64 1,.int .i64 rq,.int .i64 0,.string ⟨#[]⟩,.slice none 0 0])∧∃t',w'=W t'):=Lib.hid (fun t=>(truth_to r rq HRQ.out (W t)).mono fun e w' h=>⟨h.1,HW2 _ ((HW t).next h.2)⟩)
 have HWH:=Lib.hid HW
 clear HW HW2
 simp only[List.take_succ_cons,List.take_zero,List.drop_succ_cons,List.drop_zero]
 repeat (go_big_quiet_step (first | (go_at_call 123;exact HC0.out _) | (go_at_call 115;exact HC1.out _)))
 refine wpQuiet_nil ?_
 intro t
 have hbox:=(HWH.out t).2.1
 obtain ⟨q0,q1,q2,q3,q4⟩:=hbox.cells
 obtain ⟨z0,z1,z2,z3,z4⟩:=hbox.free
 have hlt:=hbox.lt
 obtain ⟨r0,r1,r2,r3,r4⟩:=(hbox.set (.int .i64 1) (.int .i64 rq) (.int .i64 0) (.string ⟨#[]⟩) (.slice none 0 0)).cells
 have HBF:=Lib.hid ((HWH.out t).1.trans (set5_below (W t) w.heap.size w.heap.size (.int .i64 1) (.int .i64 rq) (.int .i64 0) (.string ⟨#[]⟩) (.slice none 0 0) (Nat.le_refl _)))
 clear g0 g1 g2 g3 g4
 go_wp2_with fail
 rw[←HR.out]
 exact bodyPost_ret (v:=.tuple #[leafV 1 rq 0,.int .i64 0]) (by simp[results,Tryz.results100,go_sem,leafV,r0,r1,r2,r3,r4]) rfl (endPost_leaf (by omega) (by skip<;>omega) (by omega) rfl HBF.out)
theorem does_10 (l:List Dat) (sl:Value) (B:Nat) (w:World) (hv:RepS w B l sl) (_hB:B≤w.heap.size) (hr:∀x∈l,Dat.right x 0=true) (hl:l.length=1) :
  Calls Tryz.prog 100 #[.int .i64 10,sl] w (EndPost B (Prims.does 10 l) w):=by
 obtain ⟨x,rfl⟩:∃x,l=[x]:=by
  match l,hl with
  | [x],_=>exact ⟨x,rfl⟩
 have hrx:=hr x (by simp)
 obtain ⟨o,len,cap,rfl,hlen,hcap,hmax⟩:=slice_of hv
 obtain rfl:len=1:=hlen
 obtain ⟨b,off,k,n,d,s,l',o',len',cap',ho,hx,e0,e1,e2,e3,e4,er⟩:=part_atS hv (Below.refl _ _) (j:=0) rfl
 subst ho hx
 simp only[Nat.zero_mul,Nat.add_zero] at e0 e1 e2 e3 e4
 have hbl:=cell_lt e0
 have ER:=Lib.hid er
 have HRX:=Lib.hid hrx
 obtain ⟨R,hR⟩:∃R,Prims.does 10 [Dat.mk k n d s l']=R:=⟨_,rfl⟩
 rw[hR]
 have HK:=Lib.hid (fun X Y=>((Below.refl w.heap.size w).alloc (Nat.le_refl _) X).alloc (by simp) Y)
 have HV:=Lib.hid hv
 clear hv er hrx hr hl
 obtain ⟨r,hr⟩:∃r,(k==6)=r:=⟨_,rfl⟩
 have HRR:=Lib.hid hr
 obtain ⟨rq,hrq⟩:∃rq:Int,(if r then (1:Int) else 0)=rq:=⟨_,rfl⟩
 have hrq0:0≤rq∧rq≤1:=by rw[←hrq];split<;>omega
 have HRQ:=Lib.hid hrq
 have HR:=Lib.hid (show (Dat.mk 1 rq 0 ⟨#[]⟩ [],(0:Int))=R by
  rw[←hrq];show (Prims.truth r,(0:Int))=R
  rw[←hR,←hr,show (k==6)=decide (k=6) from by rw[Bool.eq_iff_iff,beq_iff_eq,decide_eq_true_eq]];simp[Prims.does,Dat.kind,Prims.kinds])
 clear hR hrq
 go_enter Tryz.func100,Tryz.ntmps100
 have HN:=Lib.hid (ClsA.new w (.int .i64 k) (.int .i64 n) (.int .i64 d) (.string s) (.slice o' len' cap')).drew
 go_wp2_with fail
 refine wp_region_quiet_class (ClsA w (.int .i64 k) (.int .i64 n) (.int .i64 d) (.string s) (.slice o' len' cap')) 6 (by kernel_rfl) (by kernel_rfl) HN.out ?_
 intro T0 _ W HW HW2
 have g0:∀t,(W t).cell? _=_:=fun t=>(HW t).2.2.1.cells.1
 have g1:∀t,(W t).cell? _=_:=fun t=>(HW t).2.2.1.cells.2.1
 have g2:∀t,(W t).cell? _=_:=fun t=>(HW t).2.2.1.cells.2.2.1
 have g3:∀t,(W t).cell? _=_:=fun t=>(HW t).2.2.1.cells.2.2.2.1
 have g4:∀t,(W t).cell? _=_:=fun t=>(HW t).2.2.1.cells.2.2.2.2
 have HC0:Hid (∀t,Calls Tryz.prog 123 #[.int .i64 10] (W t) fun e w'=>e=.returned (.int .i64 6)∧∃t',w'=W t'):=Lib.hid (fun t=>(kind_any 10 (by omega) (by omega) (W t)).mono fun e w' h=>⟨h.1,HW2 _ ((HW t).next h.2)⟩)
 have HC1:Hid (∀t,Calls Tryz.prog 115 #[.bool r] (W t) fun e w'=>e=.returned (.agg #[.int .i64 1,.int .i64 rq,.int .i64 0,.string ⟨#[]⟩,.slice none 0 0])∧∃t',w'=W t'):=Lib.hid (fun t=>(truth_to r rq HRQ.out (W t)).mono fun e w' h=>⟨h.1,HW2 _ ((HW t).next h.2)⟩)
 have HWH:=Lib.hid HW
 clear HW HW2
 simp only[List.take_succ_cons,List.take_zero,List.drop_succ_cons,List.drop_zero]
 repeat (go_big_quiet_step (first | (go_at_call 123;exact HC0.out _) | (go_at_call 115;exact HC1.out _)))
 refine wpQuiet_nil ?_
 intro t
 have hbox:=(HWH.out t).2.1
 obtain ⟨q0,q1,q2,q3,q4⟩:=hbox.cells
 obtain ⟨z0,z1,z2,z3,z4⟩:=hbox.free
 have hlt:=hbox.lt
 obtain ⟨r0,r1,r2,r3,r4⟩:=(hbox.set (.int .i64 1) (.int .i64 rq) (.int .i64 0) (.string ⟨#[]⟩) (.slice none 0 0)).cells
 have HBF:=Lib.hid ((HWH.out t).1.trans (set5_below (W t) w.heap.size w.heap.size (.int .i64 1) (.int .i64 rq) (.int .i64 0) (.string ⟨#[]⟩) (.slice none 0 0) (Nat.le_refl _)))
 clear g0 g1 g2 g3 g4
 go_wp2_with fail
 rw[←HR.out]
 exact bodyPost_ret (v:=.tuple #[leafV 1 rq 0,.int .i64 0]) (by simp[results,Tryz.results100,go_sem,leafV,r0,r1,r2,r3,r4]) rfl (endPost_leaf (by omega) (by skip<;>omega) (by omega) rfl HBF.out)
theorem does_11 (l:List Dat) (sl:Value) (B:Nat) (w:World) (hv:RepS w B l sl) (_hB:B≤w.heap.size) (hr:∀x∈l,Dat.right x 0=true) (hl:l.length=1) :
  Calls Tryz.prog 100 #[.int .i64 11,sl] w (EndPost B (Prims.does 11 l) w):=by
 obtain ⟨x,rfl⟩:∃x,l=[x]:=by
  match l,hl with
  | [x],_=>exact ⟨x,rfl⟩
 have hrx:=hr x (by simp)
 obtain ⟨o,len,cap,rfl,hlen,hcap,hmax⟩:=slice_of hv
 obtain rfl:len=1:=hlen
 obtain ⟨b,off,k,n,d,s,l',o',len',cap',ho,hx,e0,e1,e2,e3,e4,er⟩:=part_atS hv (Below.refl _ _) (j:=0) rfl
 subst ho hx
 simp only[Nat.zero_mul,Nat.add_zero] at e0 e1 e2 e3 e4
 have hbl:=cell_lt e0
 have ER:=Lib.hid er
 have HRX:=Lib.hid hrx
 obtain ⟨R,hR⟩:∃R,Prims.does 11 [Dat.mk k n d s l']=R:=⟨_,rfl⟩
 rw[hR]
 have HK:=Lib.hid (fun X Y=>((Below.refl w.heap.size w).alloc (Nat.le_refl _) X).alloc (by simp) Y)
 have HV:=Lib.hid hv
 clear hv er hrx hr hl
 obtain ⟨r,hr⟩:∃r,(k==0)=r:=⟨_,rfl⟩
 have HRR:=Lib.hid hr
 obtain ⟨rq,hrq⟩:∃rq:Int,(if r then (1:Int) else 0)=rq:=⟨_,rfl⟩
 have hrq0:0≤rq∧rq≤1:=by rw[←hrq];split<;>omega
 have HRQ:=Lib.hid hrq
 have HR:=Lib.hid (show (Dat.mk 1 rq 0 ⟨#[]⟩ [],(0:Int))=R by
  rw[←hrq];show (Prims.truth r,(0:Int))=R
  rw[←hR,←hr,show (k==0)=decide (k=0) from by rw[Bool.eq_iff_iff,beq_iff_eq,decide_eq_true_eq]];simp[Prims.does,Dat.kind,Prims.kinds])
 clear hR hrq
 go_enter Tryz.func100,Tryz.ntmps100
 have HN:=Lib.hid (ClsA.new w (.int .i64 k) (.int .i64 n) (.int .i64 d) (.string s) (.slice o' len' cap')).drew
 go_wp2_with fail
 refine wp_region_quiet_class (ClsA w (.int .i64 k) (.int .i64 n) (.int .i64 d) (.string s) (.slice o' len' cap')) 6 (by kernel_rfl) (by kernel_rfl) HN.out ?_
 intro T0 _ W HW HW2
 have g0:∀t,(W t).cell? _=_:=fun t=>(HW t).2.2.1.cells.1
 have g1:∀t,(W t).cell? _=_:=fun t=>(HW t).2.2.1.cells.2.1
 have g2:∀t,(W t).cell? _=_:=fun t=>(HW t).2.2.1.cells.2.2.1
 have g3:∀t,(W t).cell? _=_:=fun t=>(HW t).2.2.1.cells.2.2.2.1
 have g4:∀t,(W t).cell? _=_:=fun t=>(HW t).2.2.1.cells.2.2.2.2
 have HC0:Hid (∀t,Calls Tryz.prog 123 #[.int .i64 11] (W t) fun e w'=>e=.returned (.int .i64 0)∧∃t',w'=W t'):=Lib.hid (fun t=>(kind_any 11 (by omega) (by omega) (W t)).mono fun e w' h=>⟨h.1,HW2 _ ((HW t).next h.2)⟩)
 have HC1:Hid (∀t,Calls Tryz.prog 115 #[.bool r] (W t) fun e w'=>e=.returned (.agg #[.int .i64 1,.int .i64 rq,.int .i64 0,.string ⟨#[]⟩,.slice none 0 0])∧∃t',w'=W t'):=Lib.hid (fun t=>(truth_to r rq HRQ.out (W t)).mono fun e w' h=>⟨h.1,HW2 _ ((HW t).next h.2)⟩)
 have HWH:=Lib.hid HW
 clear HW HW2
 simp only[List.take_succ_cons,List.take_zero,List.drop_succ_cons,List.drop_zero]
 repeat (go_big_quiet_step (first | (go_at_call 123;exact HC0.out _) | (go_at_call 115;exact HC1.out _)))
 refine wpQuiet_nil ?_
 intro t
 have hbox:=(HWH.out t).2.1
 obtain ⟨q0,q1,q2,q3,q4⟩:=hbox.cells
 obtain ⟨z0,z1,z2,z3,z4⟩:=hbox.free
 have hlt:=hbox.lt
 obtain ⟨r0,r1,r2,r3,r4⟩:=(hbox.set (.int .i64 1) (.int .i64 rq) (.int .i64 0) (.string ⟨#[]⟩) (.slice none 0 0)).cells
 have HBF:=Lib.hid ((HWH.out t).1.trans (set5_below (W t) w.heap.size w.heap.size (.int .i64 1) (.int .i64 rq) (.int .i64 0) (.string ⟨#[]⟩) (.slice none 0 0) (Nat.le_refl _)))
 clear g0 g1 g2 g3 g4
 go_wp2_with fail
 rw[←HR.out]
 exact bodyPost_ret (v:=.tuple #[leafV 1 rq 0,.int .i64 0]) (by simp[results,Tryz.results100,go_sem,leafV,r0,r1,r2,r3,r4]) rfl (endPost_leaf (by omega) (by skip<;>omega) (by omega) rfl HBF.out)
theorem does_12 (l:List Dat) (sl:Value) (B:Nat) (w:World) (hv:RepS w B l sl) (_hB:B≤w.heap.size) (hr:∀x∈l,Dat.right x 0=true) (hl:l.length=1) :
  Calls Tryz.prog 100 #[.int .i64 12,sl] w (EndPost B (Prims.does 12 l) w):=by
 obtain ⟨x,rfl⟩:∃x,l=[x]:=by
  match l,hl with
  | [x],_=>exact ⟨x,rfl⟩
 have hrx:=hr x (by simp)
 obtain ⟨o,len,cap,rfl,hlen,hcap,hmax⟩:=slice_of hv
 obtain rfl:len=1:=hlen
 obtain ⟨b,off,k,n,d,s,l',o',len',cap',ho,hx,e0,e1,e2,e3,e4,er⟩:=part_atS hv (Below.refl _ _) (j:=0) rfl
 subst ho hx
 simp only[Nat.zero_mul,Nat.add_zero] at e0 e1 e2 e3 e4
 have hbl:=cell_lt e0
 have ER:=Lib.hid er
 have HRX:=Lib.hid hrx
 obtain ⟨R,hR⟩:∃R,Prims.does 12 [Dat.mk k n d s l']=R:=⟨_,rfl⟩
 rw[hR]
 have HK:=Lib.hid (fun X Y=>((Below.refl w.heap.size w).alloc (Nat.le_refl _) X).alloc (by simp) Y)
 have HV:=Lib.hid hv
 clear hv er hrx hr hl
 obtain ⟨r,hr⟩:∃r,(k==2)=r:=⟨_,rfl⟩
 have HRR:=Lib.hid hr
 obtain ⟨rq,hrq⟩:∃rq:Int,(if r then (1:Int) else 0)=rq:=⟨_,rfl⟩
 have hrq0:0≤rq∧rq≤1:=by rw[←hrq];split<;>omega
 have HRQ:=Lib.hid hrq
 have HR:=Lib.hid (show (Dat.mk 1 rq 0 ⟨#[]⟩ [],(0:Int))=R by
  rw[←hrq];show (Prims.truth r,(0:Int))=R
  rw[←hR,←hr,show (k==2)=decide (k=2) from by rw[Bool.eq_iff_iff,beq_iff_eq,decide_eq_true_eq]];simp[Prims.does,Dat.kind,Prims.kinds])
 clear hR hrq
 go_enter Tryz.func100,Tryz.ntmps100
 have HN:=Lib.hid (ClsA.new w (.int .i64 k) (.int .i64 n) (.int .i64 d) (.string s) (.slice o' len' cap')).drew
 go_wp2_with fail
 refine wp_region_quiet_class (ClsA w (.int .i64 k) (.int .i64 n) (.int .i64 d) (.string s) (.slice o' len' cap')) 6 (by kernel_rfl) (by kernel_rfl) HN.out ?_
 intro T0 _ W HW HW2
 have g0:∀t,(W t).cell? _=_:=fun t=>(HW t).2.2.1.cells.1
 have g1:∀t,(W t).cell? _=_:=fun t=>(HW t).2.2.1.cells.2.1
 have g2:∀t,(W t).cell? _=_:=fun t=>(HW t).2.2.1.cells.2.2.1
 have g3:∀t,(W t).cell? _=_:=fun t=>(HW t).2.2.1.cells.2.2.2.1
 have g4:∀t,(W t).cell? _=_:=fun t=>(HW t).2.2.1.cells.2.2.2.2
 have HC0:Hid (∀t,Calls Tryz.prog 123 #[.int .i64 12] (W t) fun e w'=>e=.returned (.int .i64 2)∧∃t',w'=W t'):=Lib.hid (fun t=>(kind_any 12 (by omega) (by omega) (W t)).mono fun e w' h=>⟨h.1,HW2 _ ((HW t).next h.2)⟩)
 have HC1:Hid (∀t,Calls Tryz.prog 115 #[.bool r] (W t) fun e w'=>e=.returned (.agg #[.int .i64 1,.int .i64 rq,.int .i64 0,.string ⟨#[]⟩,.slice none 0 0])∧∃t',w'=W t'):=Lib.hid (fun t=>(truth_to r rq HRQ.out (W t)).mono fun e w' h=>⟨h.1,HW2 _ ((HW t).next h.2)⟩)
 have HWH:=Lib.hid HW
 clear HW HW2
 simp only[List.take_succ_cons,List.take_zero,List.drop_succ_cons,List.drop_zero]
 repeat (go_big_quiet_step (first | (go_at_call 123;exact HC0.out _) | (go_at_call 115;exact HC1.out _)))
 refine wpQuiet_nil ?_
 intro t
 have hbox:=(HWH.out t).2.1
 obtain ⟨q0,q1,q2,q3,q4⟩:=hbox.cells
 obtain ⟨z0,z1,z2,z3,z4⟩:=hbox.free
 have hlt:=hbox.lt
 obtain ⟨r0,r1,r2,r3,r4⟩:=(hbox.set (.int .i64 1) (.int .i64 rq) (.int .i64 0) (.string ⟨#[]⟩) (.slice none 0 0)).cells
 have HBF:=Lib.hid ((HWH.out t).1.trans (set5_below (W t) w.heap.size w.heap.size (.int .i64 1) (.int .i64 rq) (.int .i64 0) (.string ⟨#[]⟩) (.slice none 0 0) (Nat.le_refl _)))
 clear g0 g1 g2 g3 g4
 go_wp2_with fail
 rw[←HR.out]
 exact bodyPost_ret (v:=.tuple #[leafV 1 rq 0,.int .i64 0]) (by simp[results,Tryz.results100,go_sem,leafV,r0,r1,r2,r3,r4]) rfl (endPost_leaf (by omega) (by skip<;>omega) (by omega) rfl HBF.out)
theorem does_13 (l:List Dat) (sl:Value) (B:Nat) (w:World) (hv:RepS w B l sl) (_hB:B≤w.heap.size) (hr:∀x∈l,Dat.right x 0=true) (hl:l.length=1) :
  Calls Tryz.prog 100 #[.int .i64 13,sl] w (EndPost B (Prims.does 13 l) w):=by
 obtain ⟨x,rfl⟩:∃x,l=[x]:=by
  match l,hl with
  | [x],_=>exact ⟨x,rfl⟩
 have hrx:=hr x (by simp)
 obtain ⟨o,len,cap,rfl,hlen,hcap,hmax⟩:=slice_of hv
 obtain rfl:len=1:=hlen
 obtain ⟨b,off,k,n,d,s,l',o',len',cap',ho,hx,e0,e1,e2,e3,e4,er⟩:=part_atS hv (Below.refl _ _) (j:=0) rfl
 subst ho hx
 simp only[Nat.zero_mul,Nat.add_zero] at e0 e1 e2 e3 e4
 have hbl:=cell_lt e0
 have ER:=Lib.hid er
 have HRX:=Lib.hid hrx
 obtain ⟨R,hR⟩:∃R,Prims.does 13 [Dat.mk k n d s l']=R:=⟨_,rfl⟩
 rw[hR]
 have HK:=Lib.hid (fun X Y=>((Below.refl w.heap.size w).alloc (Nat.le_refl _) X).alloc (by simp) Y)
 have HV:=Lib.hid hv
 clear hv er hrx hr hl
 obtain ⟨r,hr⟩:∃r,(k==1)=r:=⟨_,rfl⟩
 have HRR:=Lib.hid hr
 obtain ⟨rq,hrq⟩:∃rq:Int,(if r then (1:Int) else 0)=rq:=⟨_,rfl⟩
 have hrq0:0≤rq∧rq≤1:=by rw[←hrq];split<;>omega
 have HRQ:=Lib.hid hrq
 have HR:=Lib.hid (show (Dat.mk 1 rq 0 ⟨#[]⟩ [],(0:Int))=R by
  rw[←hrq];show (Prims.truth r,(0:Int))=R
  rw[←hR,←hr,show (k==1)=decide (k=1) from by rw[Bool.eq_iff_iff,beq_iff_eq,decide_eq_true_eq]];simp[Prims.does,Dat.kind,Prims.kinds])
 clear hR hrq
 go_enter Tryz.func100,Tryz.ntmps100
 have HN:=Lib.hid (ClsA.new w (.int .i64 k) (.int .i64 n) (.int .i64 d) (.string s) (.slice o' len' cap')).drew
 go_wp2_with fail
 refine wp_region_quiet_class (ClsA w (.int .i64 k) (.int .i64 n) (.int .i64 d) (.string s) (.slice o' len' cap')) 6 (by kernel_rfl) (by kernel_rfl) HN.out ?_
 intro T0 _ W HW HW2
 have g0:∀t,(W t).cell? _=_:=fun t=>(HW t).2.2.1.cells.1
 have g1:∀t,(W t).cell? _=_:=fun t=>(HW t).2.2.1.cells.2.1
 have g2:∀t,(W t).cell? _=_:=fun t=>(HW t).2.2.1.cells.2.2.1
 have g3:∀t,(W t).cell? _=_:=fun t=>(HW t).2.2.1.cells.2.2.2.1
 have g4:∀t,(W t).cell? _=_:=fun t=>(HW t).2.2.1.cells.2.2.2.2
 have HC0:Hid (∀t,Calls Tryz.prog 123 #[.int .i64 13] (W t) fun e w'=>e=.returned (.int .i64 1)∧∃t',w'=W t'):=Lib.hid (fun t=>(kind_any 13 (by omega) (by omega) (W t)).mono fun e w' h=>⟨h.1,HW2 _ ((HW t).next h.2)⟩)
 have HC1:Hid (∀t,Calls Tryz.prog 115 #[.bool r] (W t) fun e w'=>e=.returned (.agg #[.int .i64 1,.int .i64 rq,.int .i64 0,.string ⟨#[]⟩,.slice none 0 0])∧∃t',w'=W t'):=Lib.hid (fun t=>(truth_to r rq HRQ.out (W t)).mono fun e w' h=>⟨h.1,HW2 _ ((HW t).next h.2)⟩)
 have HWH:=Lib.hid HW
 clear HW HW2
 simp only[List.take_succ_cons,List.take_zero,List.drop_succ_cons,List.drop_zero]
 repeat (go_big_quiet_step (first | (go_at_call 123;exact HC0.out _) | (go_at_call 115;exact HC1.out _)))
 refine wpQuiet_nil ?_
 intro t
 have hbox:=(HWH.out t).2.1
 obtain ⟨q0,q1,q2,q3,q4⟩:=hbox.cells
 obtain ⟨z0,z1,z2,z3,z4⟩:=hbox.free
 have hlt:=hbox.lt
 obtain ⟨r0,r1,r2,r3,r4⟩:=(hbox.set (.int .i64 1) (.int .i64 rq) (.int .i64 0) (.string ⟨#[]⟩) (.slice none 0 0)).cells
 have HBF:=Lib.hid ((HWH.out t).1.trans (set5_below (W t) w.heap.size w.heap.size (.int .i64 1) (.int .i64 rq) (.int .i64 0) (.string ⟨#[]⟩) (.slice none 0 0) (Nat.le_refl _)))
 clear g0 g1 g2 g3 g4
 go_wp2_with fail
 rw[←HR.out]
 exact bodyPost_ret (v:=.tuple #[leafV 1 rq 0,.int .i64 0]) (by simp[results,Tryz.results100,go_sem,leafV,r0,r1,r2,r3,r4]) rfl (endPost_leaf (by omega) (by skip<;>omega) (by omega) rfl HBF.out)
theorem does_14 (l:List Dat) (sl:Value) (B:Nat) (w:World) (hv:RepS w B l sl) (_hB:B≤w.heap.size) (hr:∀x∈l,Dat.right x 0=true) (hl:l.length=1) :
  Calls Tryz.prog 100 #[.int .i64 14,sl] w (EndPost B (Prims.does 14 l) w):=by
 obtain ⟨x,rfl⟩:∃x,l=[x]:=by
  match l,hl with
  | [x],_=>exact ⟨x,rfl⟩
 have hrx:=hr x (by simp)
 obtain ⟨o,len,cap,rfl,hlen,hcap,hmax⟩:=slice_of hv
 obtain rfl:len=1:=hlen
 obtain ⟨b,off,k,n,d,s,l',o',len',cap',ho,hx,e0,e1,e2,e3,e4,er⟩:=part_atS hv (Below.refl _ _) (j:=0) rfl
 subst ho hx
 simp only[Nat.zero_mul,Nat.add_zero] at e0 e1 e2 e3 e4
 have hbl:=cell_lt e0
 have ER:=Lib.hid er
 have HRX:=Lib.hid hrx
 obtain ⟨R,hR⟩:∃R,Prims.does 14 [Dat.mk k n d s l']=R:=⟨_,rfl⟩
 rw[hR]
 have HK:=Lib.hid (fun X Y=>((Below.refl w.heap.size w).alloc (Nat.le_refl _) X).alloc (by simp) Y)
 have HV:=Lib.hid hv
 clear hv er hrx hr hl
 obtain ⟨r,hr⟩:∃r,(k==3)=r:=⟨_,rfl⟩
 have HRR:=Lib.hid hr
 obtain ⟨rq,hrq⟩:∃rq:Int,(if r then (1:Int) else 0)=rq:=⟨_,rfl⟩
 have hrq0:0≤rq∧rq≤1:=by rw[←hrq];split<;>omega
 have HRQ:=Lib.hid hrq
 have HR:=Lib.hid (show (Dat.mk 1 rq 0 ⟨#[]⟩ [],(0:Int))=R by
  rw[←hrq];show (Prims.truth r,(0:Int))=R
  rw[←hR,←hr,show (k==3)=decide (k=3) from by rw[Bool.eq_iff_iff,beq_iff_eq,decide_eq_true_eq]];simp[Prims.does,Dat.kind,Prims.kinds])
 clear hR hrq
 go_enter Tryz.func100,Tryz.ntmps100
 have HN:=Lib.hid (ClsA.new w (.int .i64 k) (.int .i64 n) (.int .i64 d) (.string s) (.slice o' len' cap')).drew
 go_wp2_with fail
 refine wp_region_quiet_class (ClsA w (.int .i64 k) (.int .i64 n) (.int .i64 d) (.string s) (.slice o' len' cap')) 6 (by kernel_rfl) (by kernel_rfl) HN.out ?_
 intro T0 _ W HW HW2
 have g0:∀t,(W t).cell? _=_:=fun t=>(HW t).2.2.1.cells.1
 have g1:∀t,(W t).cell? _=_:=fun t=>(HW t).2.2.1.cells.2.1
 have g2:∀t,(W t).cell? _=_:=fun t=>(HW t).2.2.1.cells.2.2.1
 have g3:∀t,(W t).cell? _=_:=fun t=>(HW t).2.2.1.cells.2.2.2.1
 have g4:∀t,(W t).cell? _=_:=fun t=>(HW t).2.2.1.cells.2.2.2.2
 have HC0:Hid (∀t,Calls Tryz.prog 123 #[.int .i64 14] (W t) fun e w'=>e=.returned (.int .i64 3)∧∃t',w'=W t'):=Lib.hid (fun t=>(kind_any 14 (by omega) (by omega) (W t)).mono fun e w' h=>⟨h.1,HW2 _ ((HW t).next h.2)⟩)
 have HC1:Hid (∀t,Calls Tryz.prog 115 #[.bool r] (W t) fun e w'=>e=.returned (.agg #[.int .i64 1,.int .i64 rq,.int .i64 0,.string ⟨#[]⟩,.slice none 0 0])∧∃t',w'=W t'):=Lib.hid (fun t=>(truth_to r rq HRQ.out (W t)).mono fun e w' h=>⟨h.1,HW2 _ ((HW t).next h.2)⟩)
 have HWH:=Lib.hid HW
 clear HW HW2
 simp only[List.take_succ_cons,List.take_zero,List.drop_succ_cons,List.drop_zero]
 repeat (go_big_quiet_step (first | (go_at_call 123;exact HC0.out _) | (go_at_call 115;exact HC1.out _)))
 refine wpQuiet_nil ?_
 intro t
 have hbox:=(HWH.out t).2.1
 obtain ⟨q0,q1,q2,q3,q4⟩:=hbox.cells
 obtain ⟨z0,z1,z2,z3,z4⟩:=hbox.free
 have hlt:=hbox.lt
 obtain ⟨r0,r1,r2,r3,r4⟩:=(hbox.set (.int .i64 1) (.int .i64 rq) (.int .i64 0) (.string ⟨#[]⟩) (.slice none 0 0)).cells
 have HBF:=Lib.hid ((HWH.out t).1.trans (set5_below (W t) w.heap.size w.heap.size (.int .i64 1) (.int .i64 rq) (.int .i64 0) (.string ⟨#[]⟩) (.slice none 0 0) (Nat.le_refl _)))
 clear g0 g1 g2 g3 g4
 go_wp2_with fail
 rw[←HR.out]
 exact bodyPost_ret (v:=.tuple #[leafV 1 rq 0,.int .i64 0]) (by simp[results,Tryz.results100,go_sem,leafV,r0,r1,r2,r3,r4]) rfl (endPost_leaf (by omega) (by skip<;>omega) (by omega) rfl HBF.out)
theorem does_15 (l:List Dat) (sl:Value) (B:Nat) (w:World) (hv:RepS w B l sl) (_hB:B≤w.heap.size) (hr:∀x∈l,Dat.right x 0=true) (hl:l.length=1) :
  Calls Tryz.prog 100 #[.int .i64 15,sl] w (EndPost B (Prims.does 15 l) w):=by
 obtain ⟨x,rfl⟩:∃x,l=[x]:=by
  match l,hl with
  | [x],_=>exact ⟨x,rfl⟩
 have hrx:=hr x (by simp)
 obtain ⟨o,len,cap,rfl,hlen,hcap,hmax⟩:=slice_of hv
 obtain rfl:len=1:=hlen
 obtain ⟨b,off,k,n,d,s,l',o',len',cap',ho,hx,e0,e1,e2,e3,e4,er⟩:=part_atS hv (Below.refl _ _) (j:=0) rfl
 subst ho hx
 simp only[Nat.zero_mul,Nat.add_zero] at e0 e1 e2 e3 e4
 have hbl:=cell_lt e0
 have ER:=Lib.hid er
 have HRX:=Lib.hid hrx
 obtain ⟨R,hR⟩:∃R,Prims.does 15 [Dat.mk k n d s l']=R:=⟨_,rfl⟩
 rw[hR]
 have HK:=Lib.hid (fun X Y=>((Below.refl w.heap.size w).alloc (Nat.le_refl _) X).alloc (by simp) Y)
 have HV:=Lib.hid hv
 clear hv er hrx hr hl
 obtain ⟨r,hr⟩:∃r,(k==7)=r:=⟨_,rfl⟩
 have HRR:=Lib.hid hr
 obtain ⟨rq,hrq⟩:∃rq:Int,(if r then (1:Int) else 0)=rq:=⟨_,rfl⟩
 have hrq0:0≤rq∧rq≤1:=by rw[←hrq];split<;>omega
 have HRQ:=Lib.hid hrq
 have HR:=Lib.hid (show (Dat.mk 1 rq 0 ⟨#[]⟩ [],(0:Int))=R by
  rw[←hrq];show (Prims.truth r,(0:Int))=R
  rw[←hR,←hr,show (k==7)=decide (k=7) from by rw[Bool.eq_iff_iff,beq_iff_eq,decide_eq_true_eq]];simp[Prims.does,Dat.kind,Prims.kinds])
 clear hR hrq
 go_enter Tryz.func100,Tryz.ntmps100
 have HN:=Lib.hid (ClsA.new w (.int .i64 k) (.int .i64 n) (.int .i64 d) (.string s) (.slice o' len' cap')).drew
 go_wp2_with fail
 refine wp_region_quiet_class (ClsA w (.int .i64 k) (.int .i64 n) (.int .i64 d) (.string s) (.slice o' len' cap')) 6 (by kernel_rfl) (by kernel_rfl) HN.out ?_
 intro T0 _ W HW HW2
 have g0:∀t,(W t).cell? _=_:=fun t=>(HW t).2.2.1.cells.1
 have g1:∀t,(W t).cell? _=_:=fun t=>(HW t).2.2.1.cells.2.1
 have g2:∀t,(W t).cell? _=_:=fun t=>(HW t).2.2.1.cells.2.2.1
 have g3:∀t,(W t).cell? _=_:=fun t=>(HW t).2.2.1.cells.2.2.2.1
 have g4:∀t,(W t).cell? _=_:=fun t=>(HW t).2.2.1.cells.2.2.2.2
 have HC0:Hid (∀t,Calls Tryz.prog 123 #[.int .i64 15] (W t) fun e w'=>e=.returned (.int .i64 7)∧∃t',w'=W t'):=Lib.hid (fun t=>(kind_any 15 (by omega) (by omega) (W t)).mono fun e w' h=>⟨h.1,HW2 _ ((HW t).next h.2)⟩)
 have HC1:Hid (∀t,Calls Tryz.prog 115 #[.bool r] (W t) fun e w'=>e=.returned (.agg #[.int .i64 1,.int .i64 rq,.int .i64 0,.string ⟨#[]⟩,.slice none 0 0])∧∃t',w'=W t'):=Lib.hid (fun t=>(truth_to r rq HRQ.out (W t)).mono fun e w' h=>⟨h.1,HW2 _ ((HW t).next h.2)⟩)
 have HWH:=Lib.hid HW
 clear HW HW2
 simp only[List.take_succ_cons,List.take_zero,List.drop_succ_cons,List.drop_zero]
 repeat (go_big_quiet_step (first | (go_at_call 123;exact HC0.out _) | (go_at_call 115;exact HC1.out _)))
 refine wpQuiet_nil ?_
 intro t
 have hbox:=(HWH.out t).2.1
 obtain ⟨q0,q1,q2,q3,q4⟩:=hbox.cells
 obtain ⟨z0,z1,z2,z3,z4⟩:=hbox.free
 have hlt:=hbox.lt
 obtain ⟨r0,r1,r2,r3,r4⟩:=(hbox.set (.int .i64 1) (.int .i64 rq) (.int .i64 0) (.string ⟨#[]⟩) (.slice none 0 0)).cells
 have HBF:=Lib.hid ((HWH.out t).1.trans (set5_below (W t) w.heap.size w.heap.size (.int .i64 1) (.int .i64 rq) (.int .i64 0) (.string ⟨#[]⟩) (.slice none 0 0) (Nat.le_refl _)))
 clear g0 g1 g2 g3 g4
 go_wp2_with fail
 rw[←HR.out]
 exact bodyPost_ret (v:=.tuple #[leafV 1 rq 0,.int .i64 0]) (by simp[results,Tryz.results100,go_sem,leafV,r0,r1,r2,r3,r4]) rfl (endPost_leaf (by omega) (by skip<;>omega) (by omega) rfl HBF.out)
theorem does_16 (l:List Dat) (sl:Value) (B:Nat) (w:World) (hv:RepS w B l sl) (_hB:B≤w.heap.size) (hr:∀x∈l,Dat.right x 0=true) (hl:l.length=1) :
  Calls Tryz.prog 100 #[.int .i64 16,sl] w (EndPost B (Prims.does 16 l) w):=by
 obtain ⟨x,rfl⟩:∃x,l=[x]:=by
  match l,hl with
  | [x],_=>exact ⟨x,rfl⟩
 have hrx:=hr x (by simp)
 obtain ⟨o,len,cap,rfl,hlen,hcap,hmax⟩:=slice_of hv
 obtain rfl:len=1:=hlen
 obtain ⟨b,off,k,n,d,s,l',o',len',cap',ho,hx,e0,e1,e2,e3,e4,er⟩:=part_atS hv (Below.refl _ _) (j:=0) rfl
 subst ho hx
 simp only[Nat.zero_mul,Nat.add_zero] at e0 e1 e2 e3 e4
 have hbl:=cell_lt e0
 have ER:=Lib.hid er
 have HRX:=Lib.hid hrx
 obtain ⟨R,hR⟩:∃R,Prims.does 16 [Dat.mk k n d s l']=R:=⟨_,rfl⟩
 rw[hR]
 have HK:=Lib.hid (fun X Y=>((Below.refl w.heap.size w).alloc (Nat.le_refl _) X).alloc (by simp) Y)
 have HV:=Lib.hid hv
 clear hv er hrx hr hl
 obtain ⟨r,hr⟩:∃r,(k==(-1))=r:=⟨_,rfl⟩
 have HRR:=Lib.hid hr
 obtain ⟨rq,hrq⟩:∃rq:Int,(if r then (1:Int) else 0)=rq:=⟨_,rfl⟩
 have hrq0:0≤rq∧rq≤1:=by rw[←hrq];split<;>omega
 have HRQ:=Lib.hid hrq
 have HR:=Lib.hid (show (Dat.mk 1 rq 0 ⟨#[]⟩ [],(0:Int))=R by
  rw[←hrq];show (Prims.truth r,(0:Int))=R
  rw[←hR,←hr,show (k==(-1))=decide (k=(-1)) from by rw[Bool.eq_iff_iff,beq_iff_eq,decide_eq_true_eq]];simp[Prims.does,Dat.kind,Prims.kinds])
 clear hR hrq
 go_enter Tryz.func100,Tryz.ntmps100
 have HN:=Lib.hid (ClsA.new w (.int .i64 k) (.int .i64 n) (.int .i64 d) (.string s) (.slice o' len' cap')).drew
 go_wp2_with fail
 refine wp_region_quiet_class (ClsA w (.int .i64 k) (.int .i64 n) (.int .i64 d) (.string s) (.slice o' len' cap')) 6 (by kernel_rfl) (by kernel_rfl) HN.out ?_
 intro T0 _ W HW HW2
 have g0:∀t,(W t).cell? _=_:=fun t=>(HW t).2.2.1.cells.1
 have g1:∀t,(W t).cell? _=_:=fun t=>(HW t).2.2.1.cells.2.1
 have g2:∀t,(W t).cell? _=_:=fun t=>(HW t).2.2.1.cells.2.2.1
 have g3:∀t,(W t).cell? _=_:=fun t=>(HW t).2.2.1.cells.2.2.2.1
 have g4:∀t,(W t).cell? _=_:=fun t=>(HW t).2.2.1.cells.2.2.2.2
 have HC0:Hid (∀t,Calls Tryz.prog 123 #[.int .i64 16] (W t) fun e w'=>e=.returned (.int .i64 (-1))∧∃t',w'=W t'):=Lib.hid (fun t=>(kind_any 16 (by omega) (by omega) (W t)).mono fun e w' h=>⟨h.1,HW2 _ ((HW t).next h.2)⟩)
 have HC1:Hid (∀t,Calls Tryz.prog 115 #[.bool r] (W t) fun e w'=>e=.returned (.agg #[.int .i64 1,.int .i64 rq,.int .i64 0,.string ⟨#[]⟩,.slice none 0 0])∧∃t',w'=W t'):=Lib.hid (fun t=>(truth_to r rq HRQ.out (W t)).mono fun e w' h=>⟨h.1,HW2 _ ((HW t).next h.2)⟩)
 have HWH:=Lib.hid HW
 clear HW HW2
 simp only[List.take_succ_cons,List.take_zero,List.drop_succ_cons,List.drop_zero]
 repeat (go_big_quiet_step (first | (go_at_call 123;exact HC0.out _) | (go_at_call 115;exact HC1.out _)))
 refine wpQuiet_nil ?_
 intro t
 have hbox:=(HWH.out t).2.1
 obtain ⟨q0,q1,q2,q3,q4⟩:=hbox.cells
 obtain ⟨z0,z1,z2,z3,z4⟩:=hbox.free
 have hlt:=hbox.lt
 obtain ⟨r0,r1,r2,r3,r4⟩:=(hbox.set (.int .i64 1) (.int .i64 rq) (.int .i64 0) (.string ⟨#[]⟩) (.slice none 0 0)).cells
 have HBF:=Lib.hid ((HWH.out t).1.trans (set5_below (W t) w.heap.size w.heap.size (.int .i64 1) (.int .i64 rq) (.int .i64 0) (.string ⟨#[]⟩) (.slice none 0 0) (Nat.le_refl _)))
 clear g0 g1 g2 g3 g4
 go_wp2_with fail
 rw[←HR.out]
 exact bodyPost_ret (v:=.tuple #[leafV 1 rq 0,.int .i64 0]) (by simp[results,Tryz.results100,go_sem,leafV,r0,r1,r2,r3,r4]) rfl (endPost_leaf (by omega) (by skip<;>omega) (by omega) rfl HBF.out)
end
end Go.Proofs.YtgbibibmpoekiaaGreatDoor
