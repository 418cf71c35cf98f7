/-
  What the proofs lean on: FwD, FwN, FwO.
-/
import Derived.Test.YtgbibibmpoekiaaGreatDoorShfA18
import Derived.Test.YtgbibibmpoekiaaGreatDoorShfA31
import Derived.Test.YtgbibibmpoekiaaGreatDoorShfA32
set_option maxRecDepth 100000
set_option maxHeartbeats 16000000
namespace Go.Proofs.YtgbibibmpoekiaaGreatDoor
section
open Go Go.RowKit
theorem put5_turned (W:World) (g o:Nat) (c0 c1 c2 c3 c4:Value):Turned (fun b=>b=g) W (put5 W g o c0 c1 c2 c3 c4):=
 ((((Turned.set (S:=fun b=>b=g) W ⟨g,o,none⟩ c0 rfl).next (Turned.set (S:=fun b=>b=g) _ ⟨g,o+1,none⟩ c1 rfl)).next (Turned.set (S:=fun b=>b=g) _ ⟨g,o+2,none⟩ c2 rfl)).next (Turned.set (S:=fun b=>b=g) _ ⟨g,o+3,none⟩ c3 rfl)).next (Turned.set (S:=fun b=>b=g) _ ⟨g,o+4,none⟩ c4 rfl)
theorem grownS_len {W:World} {S:Nat→Prop} {base m cap:Nat} {o:Option Addr} {l:List Dat} (h:GrownS W S base l (.slice o m cap)):m=l.length:=by
 obtain ⟨_,_,_,h1,_,h2⟩:=h.form
 simp only[Value.slice.injEq] at h1
 obtain ⟨rfl,rfl,rfl⟩:=h1
 exact h2
theorem grownS_put {W:World} {S:Nat→Prop} {base g m cap k:Nat} {l:List Dat} {y:Dat} {c0 c1 c2 c3 c4:Value} (h:GrownS W S base l (.slice (some ⟨g,0,none⟩) m cap)) (hk:k<l.length) (hy:RepD (hide W (SR S (.slice (some ⟨g,0,none⟩) m cap))) W.heap.size y (.agg #[c0,c1,c2,c3,c4])) :
  GrownS (put5 W g (k*5) c0 c1 c2 c3 c4) S base (l.set k y) (.slice (some ⟨g,0,none⟩) m cap):=by
 have e1:=grownS_len h
 obtain ⟨h0,hap,hb,xs,h1,h2⟩:=h
 rw[←e1] at h1
 obtain ⟨L,hL,g1,g2,g3,g4,g5,g6⟩:=own_box h1
 have hT:=put5_turned W g (k*5) c0 c1 c2 c3 c4
 have hsz:=put5_size W g (k*5) c0 c1 c2 c3 c4
 have sh:Shown W (SR S (.slice (some ⟨g,0,none⟩) m cap)) _ (SR S (.slice (some ⟨g,0,none⟩) m cap)):=Shown.turned hT fun b _ hb=>.inr (by subst hb;rfl)
 refine ⟨fun b hb=>by rw[hsz];exact h0 b hb,hap,by rw[hsz];exact hb,((((xs.set (k*5) c0).set (k*5+1) c1).set (k*5+2) c2).set (k*5+3) c3).set (k*5+4) c4,?_,?_⟩
 ·rw[List.length_set,←e1]
  refine own_of_box (((((hL.set (k*5) c0).set (k*5+1) c1).set (k*5+2) c2).set (k*5+3) c3).set (k*5+4) c4) g1 g2 g3 (by simpa using g4) ?_ (by simpa using g6)
  simp only[List.take_set,g5]
 ·exact (CellsD.set hy hk h2).shown sh (by rw[hsz];exact Nat.le_refl _)
end
section
open Go Go.RowKit
namespace Fd
theorem dataOf_append (cs:List Dat):∀(a b:List Trm) (x:List Dat),dataOf cs a=some x→dataOf cs (a++b)=(dataOf cs b).map (x ++ ·)
 | [],b,x,h=>by
  simp only[dataOf,Option.some.injEq] at h
  subst h
  simp
 | y::a,b,x,h=>by
  simp only[dataOf,List.cons_append] at h ⊢
  by_cases h0:y.op=0
  ·simp only[h0,if_true] at h ⊢
   cases h1:cs[y.n.toNat]? with
   | none=>rw[h1] at h;cases h
   | some d=>
    rw[h1] at h
    cases h2:dataOf cs a with
    | none=>rw[h2] at h;cases h
    | some r=>
     rw[h2] at h
     simp only[Option.some.injEq] at h
     subst h
     rw[dataOf_append cs a b r h2]
     cases dataOf cs b<;>simp
  ·simp only[h0,if_false] at h
   cases h
theorem dataOf_stop {cs:List Dat} {l:List Trm} {j:Nat} {y:Trm} {x:List Dat} (h:dataOf cs (l.take j)=some x) (hy:l[j]?=some y) (h0:y.op≠0):dataOf cs l=none:=by
 have hj:=(List.getElem?_eq_some_iff.1 hy).1
 have hl:l=l.take j++y::l.drop (j+1):=by
  have e:l[j]=y:=(List.getElem?_eq_some_iff.1 hy).2
  rw[←e,←List.drop_eq_getElem_cons hj,List.take_append_drop]
 rw[hl,dataOf_append cs _ _ x h]
 simp[dataOf,h0]
theorem dataOf_snoc {cs:List Dat} {l:List Trm} {j:Nat} {y:Trm} {x:List Dat} {d:Dat} (h:dataOf cs (l.take j)=some x) (hy:l[j]?=some y) (h0:y.op=0) (hd:cs[y.n.toNat]?=some d):dataOf cs (l.take (j+1))=some (x++[d]):=by
 rw[List.take_add_one,hy,Option.toList_some,dataOf_append cs _ _ x h]
 simp[dataOf,h0,hd]
theorem dataOf_len (cs:List Dat):∀(a:List Trm) (x:List Dat),dataOf cs a=some x→x.length=a.length
 | [],x,h=>by
  simp only[dataOf,Option.some.injEq] at h
  subst h;rfl
 | y::a,x,h=>by
  simp only[dataOf] at h
  by_cases h0:y.op=0
  ·simp only[h0,if_true] at h
   cases h1:cs[y.n.toNat]? with
   | none=>rw[h1] at h;cases h
   | some d=>
    rw[h1] at h
    cases h2:dataOf cs a with
    | none=>rw[h2] at h;cases h
    | some r=>
     rw[h2] at h
     simp only[Option.some.injEq] at h
     subst h
     simp[dataOf_len cs a r h2]
  ·simp only[h0,if_false] at h
   cases h
theorem prim_none {F:Int→List Dat→Option Dat} {n:Int} {l:List Trm} {cs:List Dat} (h:dataOf cs l=none):prim F n l cs=(.mk 10 n [] l,cs):=by
 unfold prim;rw[h]
end Fd
def FoPostE (b0:Nat) (S:Nat→Prop) (fb base:Nat) (sl:Value) (p:Trm × List Dat) (w:World) (e:Ending) (w':World):Prop:=
 ∃(o n:Int) (ov ot:Option Addr) (lv cv lt ct:Nat) (sl':Value),e=.returned (.agg #[.int .i64 o,.int .i64 n,.slice ov lv cv,.slice ot lt ct])∧FoE b0 w' S fb base sl' p.2∧TrmR (hide w' (FH S fb sl')) w'.heap.size p.1 [.int .i64 o,.int .i64 n,.slice ov lv cv,.slice ot lt ct]∧Turned (FT fb sl) w w'∧(∀g,sl'.ownBlock=some g→sl.ownBlock=some g∨w.heap.size≤g)
theorem FoPostE.same {b0:Nat} {S:Nat→Prop} {fb base:Nat} {sl:Value} {x:Trm} {cs:List Dat} {w w':World} {e:Ending} (hf:FoE b0 w S fb base sl cs) (h:TmPost (FH S fb sl) x w e w'):FoPostE b0 S fb base sl (x,cs) w e w':=by
 obtain ⟨o,n,ov,ot,lv,cv,lt,ct,rfl,h1,h2⟩:=h
 exact ⟨o,n,ov,ot,lv,cv,lt,ct,sl,rfl,hf.below h2,h1,.of_below h2,fun g hg=>.inl hg⟩
structure PrI (w:World) (H:Nat→Prop) (n:Int) (tv:Value) (ds:List Dat) (dsl:Value) (wr:World):Prop where
 rb:BoxL wr w.heap.size 26 [.int .i64 0,.int .i64 0,.slice none 0 0,.slice none 0 0]
 tb:BoxL wr (w.heap.size+1) 26 [.int .i64 10,.int .i64 n,.slice none 0 0,tv]
 row:GrownS wr H (w.heap.size+2) ds dsl
 below:Below w.heap.size w wr
theorem PrI.keep {w:World} {H:Nat→Prop} {n:Int} {tv:Value} {ds:List Dat} {dsl:Value} {wr W:World} (h:PrI w H n tv ds dsl wr) (hb:Below wr.heap.size wr W):PrI w H n tv ds dsl W:=
 ⟨h.rb.keep hb,h.tb.keep hb,h.row.below hb,h.below.trans (hb.mono h.below.size)⟩
def PrR (H S':Nat→Prop) (base:Nat) (dsl fp fv sl bp cp dv:Value) (xn:Int) (ds:List Dat) (d:Dat) (i:Nat) (v:Value) (W:World):Prop:=match i with
 | 0=>v=dsl
 | 1=>v=fp
 | 2=>v=fp
 | 3=>v=fv
 | 4=>v=sl
 | 5=>v=bp
 | 6=>v=.int .i64 xn
 | 7=>v=cp
 | 8=>v=dv
 | 9=>RepS (hide W S') W.heap.size [d] v
 | 10=>∃o l' c,v=.slice o l' c∧GrownS W H base (ds++[d]) v
 | _=>True
theorem prR_kept {H S':Nat→Prop} {base:Nat} {dsl fp fv sl bp cp dv:Value} {xn:Int} {ds:List Dat} {d:Dat} {T:Nat→Prop} (hT:∀b,T b→S' b):∀i v A B,i≠10→PrR H S' base dsl fp fv sl bp cp dv xn ds d i v A→Turned T A B→PrR H S' base dsl fp fv sl bp cp dv xn ds d i v B:=fun i v A B hi h ht=>by
 match i,hi with
 | 0,_=>exact h
 | 1,_=>exact h
 | 2,_=>exact h
 | 3,_=>exact h
 | 4,_=>exact h
 | 5,_=>exact h
 | 6,_=>exact h
 | 7,_=>exact h
 | 8,_=>exact h
 | 9,_=>exact RepS.shown h (Shown.turned ht fun b _ hb=>hT b hb) ht.size
 | 10,hi=>exact absurd rfl hi
 | i+11,_=>trivial
theorem trmR_prim {W:World} {H:Nat→Prop} {n:Int} {l:List Trm} {ot:Option Addr} {lt ct:Nat} (hn:I64 n) (hl:TrmS (hide W H) W.heap.size l (.slice ot lt ct)):TrmR (hide W H) W.heap.size (.mk 10 n [] l) [.int .i64 10,.int .i64 n,.slice none 0 0,.slice ot lt ct]:=
 trmR_iff.2 ⟨_,_,rfl,⟨by omega,by omega⟩,hn,⟨none,0,0,rfl,rfl,by omega,by omega,rfl,rfl⟩,hl⟩
end
section
open Go Go.RowKit
structure Half (W:World) (S:Nat→Prop) (fb base:Nat) (sl:Value) (cs:List Dat) (g m cap:Nat):Prop where
 box:BoxL W fb 50 [sl]
 row:GrownS W (SF S fb) base (cs++[Prims.zeroD]) (.slice (some ⟨g,0,none⟩) m cap)
theorem Half.ne {W:World} {S:Nat→Prop} {fb base:Nat} {sl:Value} {cs:List Dat} {g m cap:Nat} (h:Half W S fb base sl cs g m cap):fb≠g:=fun e=>h.row.apart g rfl (.inr e.symm)
theorem set_last {cs:List Dat} {z d:Dat}:(cs++[z]).set cs.length d=cs++[d]:=by simp
theorem half_A {W:World} {S:Nat→Prop} {fb base:Nat} {sl:Value} {cs:List Dat} {g m cap:Nat} {d:Dat} {c0 c1 c2 c3 c4:Value} (h:Half W S fb base sl cs g m cap) (hd:RepD (hide W (SR (SF S fb) (.slice (some ⟨g,0,none⟩) m cap))) W.heap.size d (.agg #[c0,c1,c2,c3,c4])) :
  FoS ((put5 W g (cs.length*5) c0 c1 c2 c3 c4).setCell ⟨fb,0,none⟩ (.slice (some ⟨g,0,none⟩) m cap)) S fb base (.slice (some ⟨g,0,none⟩) m cap) (cs++[d])∧Turned (fun b=>b=fb∨b=g) W ((put5 W g (cs.length*5) c0 c1 c2 c3 c4).setCell ⟨fb,0,none⟩ (.slice (some ⟨g,0,none⟩) m cap)):=by
 have h1:=grownS_put h.row (k:=cs.length) (by simp) hd
 rw[set_last] at h1
 have t1:=put5_turned W g (cs.length*5) c0 c1 c2 c3 c4
 have hbx:=t1.box h.box h.ne
 have t2:Turned (fun b=>b=fb) (put5 W g (cs.length*5) c0 c1 c2 c3 c4) ((put5 W g (cs.length*5) c0 c1 c2 c3 c4).setCell ⟨fb,0,none⟩ (.slice (some ⟨g,0,none⟩) m cap)):=Turned.set (S:=fun b=>b=fb) _ ⟨fb,0,none⟩ _ rfl
 exact ⟨⟨hbx.set 0 _,h1.turned t2 fun b _ hb=>.inr hb⟩,(t1.wider fun b _ hb=>.inr hb).next (t2.wider fun b _ hb=>.inl hb)⟩
theorem half_B {W:World} {S:Nat→Prop} {fb base:Nat} {sl:Value} {cs:List Dat} {g m cap:Nat} {d:Dat} {c0 c1 c2 c3 c4:Value} (h:Half W S fb base sl cs g m cap) (hd:RepD (hide W (SR (SF S fb) (.slice (some ⟨g,0,none⟩) m cap))) W.heap.size d (.agg #[c0,c1,c2,c3,c4])) :
  FoS (put5 (W.setCell ⟨fb,0,none⟩ (.slice (some ⟨g,0,none⟩) m cap)) g (cs.length*5) c0 c1 c2 c3 c4) S fb base (.slice (some ⟨g,0,none⟩) m cap) (cs++[d])∧Turned (fun b=>b=fb∨b=g) W (put5 (W.setCell ⟨fb,0,none⟩ (.slice (some ⟨g,0,none⟩) m cap)) g (cs.length*5) c0 c1 c2 c3 c4):=by
 have t2:Turned (fun b=>b=fb) W (W.setCell ⟨fb,0,none⟩ (.slice (some ⟨g,0,none⟩) m cap)):=Turned.set (S:=fun b=>b=fb) _ ⟨fb,0,none⟩ _ rfl
 have hd':=hd.shown (Shown.turned t2 fun b _ hb=>.inl (.inr hb)) t2.size
 have h1:=grownS_put (h.row.turned t2 fun b _ hb=>.inr hb) (k:=cs.length) (by simp) hd'
 rw[set_last] at h1
 have t1:=put5_turned (W.setCell ⟨fb,0,none⟩ (.slice (some ⟨g,0,none⟩) m cap)) g (cs.length*5) c0 c1 c2 c3 c4
 exact ⟨⟨t1.box (h.box.set 0 _) h.ne,h1⟩,(t2.wider fun b _ hb=>.inl hb).next (t1.wider fun b _ hb=>.inr hb)⟩
def GvR (S':Nat→Prop) (fp sl dv:Value) (m:Nat) (i:Nat) (v:Value) (W:World):Prop:=match i with
 | 0=>v=fp
 | 1=>v=fp
 | 2=>v=fp
 | 3=>v=sl
 | 4=>v=dv
 | 5=>v=.int .i64 m
 | 6=>RepS (hide W S') W.heap.size [Prims.zeroD] v
 | _=>True
theorem gvR_kept {S':Nat→Prop} {fp sl dv:Value} {m:Nat}:∀i v A B,GvR S' fp sl dv m i v A→Below A.heap.size A B→GvR S' fp sl dv m i v B:=fun i v A B h hb=>by
 match i with
 | 0=>exact h
 | 1=>exact h
 | 2=>exact h
 | 3=>exact h
 | 4=>exact h
 | 5=>exact h
 | 6=>exact RepS.shown h (Shown.below hb) hb.size
 | i+7=>trivial
theorem fbs_zero (w:World):(Instr.buildSlice 22 1 #[(0,.agg #[.int .i64 0,.int .i64 0,.int .i64 0,.string ⟨#[]⟩,.slice none 0 0])]).run Tryz.prog w=.ok (.slice (some ⟨w.heap.size,0,none⟩) 1 1) (w.alloc (.cells #[.int .i64 0,.int .i64 0,.int .i64 0,.string ⟨#[]⟩,.slice none 0 0] 45)):=by go_simp
theorem fbs_zrun {o:Oper} {a:Act} {w:World} (ho:o.op=.buildSlice 22 1 #[(0,.const (.agg #[.int .i64 0,.int .i64 0,.int .i64 0,.string ⟨#[]⟩,.slice none 0 0]))]):(execOp a.eval o).run Tryz.prog w=.ok (.value (.slice (some ⟨w.heap.size,0,none⟩) 1 1)) (w.alloc (.cells #[.int .i64 0,.int .i64 0,.int .i64 0,.string ⟨#[]⟩,.slice none 0 0] 45)):=by
 have hmap:(#[(0,Operand.const (.agg #[.int .i64 0,.int .i64 0,.int .i64 0,.string ⟨#[]⟩,.slice none 0 0]))]:Array (Nat × Operand)).map (fun (i,x)=>(i,a.eval x))=#[(0,.agg #[.int .i64 0,.int .i64 0,.int .i64 0,.string ⟨#[]⟩,.slice none 0 0])]:=by
  simp only[List.map_toArray,List.map_cons,List.map_nil]
  rfl
 unfold execOp
 rw[ho]
 show (do let r ←Instr.buildSlice 22 1 ((#[(0,Operand.const (.agg #[.int .i64 0,.int .i64 0,.int .i64 0,.string ⟨#[]⟩,.slice none 0 0]))]:Array (Nat × Operand)).map (fun (i,x)=>(i,a.eval x)));pure (Next.value r):Sem Next).run Tryz.prog w=_
 rw[hmap]
 simp only[Sem.run_bind,Sem.run_pure,fbs_zero,Result.andThen_ok]
theorem zeroD_rep (W:World) (B:Nat):RepD W B Prims.zeroD (.agg #[.int .i64 0,.int .i64 0,.int .i64 0,.string ⟨#[]⟩,.slice none 0 0]):=rep_leaf 0 0 0 ⟨#[]⟩ (by omega) (by omega) (by omega) (by decide)
theorem give_fin {b0:Nat} {S:Nat→Prop} {fb base:Nat} {sl:Value} {cs:List Dat} {fd:Dat} {wc w1 W9 A:World} {g m cap:Nat} (hf:FoE b0 wc S fb base sl cs) (hbc:Below wc.heap.size wc w1)
  (hr:GrownS W9 (SF S fb) base (cs++[Prims.zeroD]) (.slice (some ⟨g,0,none⟩) m cap)) (h3:Turned (fun b=>sl.ownBlock=some b) w1 W9) (h4:Shown w1 (SR (SF S fb) sl) W9 (SR (SF S fb) (.slice (some ⟨g,0,none⟩) m cap)))
  (hA:FoS A S fb base (.slice (some ⟨g,0,none⟩) m cap) (cs++[fd])∧Turned (fun b=>b=fb∨b=g) W9 A) (hg:Dat.right fd 0=true∧Dat.bulk fd≤1048576) (hcs:cs.length+1≤100000) :
  ∃(o':Option Addr) (l' c':Nat),Hid (FoE b0 A S fb base (.slice o' l' c') (cs++[fd]))∧Hid (Turned (FT fb sl) wc A)∧Hid (∀q,(Value.slice o' l' c').ownBlock=some q→sl.ownBlock=some q∨wc.heap.size≤q):=by
 have hown:sl.ownBlock=some g∨w1.heap.size≤g:=by
  by_cases h:sl.ownBlock=some g
  ·exact .inl h
  ·refine .inr (Nat.le_of_not_lt fun hlt=>?_)
   obtain ⟨g',k,n,d,s,p,ln,cp,he,z0,_⟩:=hr.elem (j:=cs.length) (x:=Prims.zeroD) (by simp)
   simp only[Option.some.injEq,Addr.mk.injEq,and_true] at he
   subst he
   have hblk:=h3.block g hlt h
   have hc1:w1.cell? ⟨g,cs.length*5,none⟩=some (.int .i64 k):=by
    unfold World.cell? at z0 ⊢
    rwa[hblk] at z0
   exact (h4 g _ _ (fun hs=>hs.elim (hr.apart g rfl) h) hc1).1 (.inr rfl)
 have ht:Turned (FT fb sl) wc A:=((Turned.of_below (S:=FT fb sl) hbc).trans h3 (fun b _ hb=>.inr hb)).trans hA.2 (fun b hb h=>by
  rcases h with h | h
  ·exact .inl h
  ·subst h
   rcases hown with h | h
   ·exact .inr h
   ·have:=hbc.size;omega)
 refine ⟨_,_,_,Lib.hid ⟨hA.1,hf.env.kept (ht.below (fun b hb=>?_) (Nat.le_trans hf.lf (Nat.le_of_lt hf.fo.box.lt))),hf.lf,hf.lb,fun d hd=>?_,by simpa using hcs⟩,Lib.hid ht,Lib.hid fun q hq=>?_⟩
 ·rcases hb with e | e
  ·rw[e];exact hf.lf
  ·exact Nat.le_trans hf.lb (hf.fo.row.block e).1
 ·rcases List.mem_append.1 hd with h | h
  ·exact hf.good d h
  ·rw[List.mem_singleton.1 h];exact hg
 ·simp only[Value.ownBlock,Option.some.injEq] at hq
  subst hq
  rcases hown with h | h
  ·exact .inl h
  ·exact .inr (Nat.le_trans hbc.size h)
def S2w (S:Nat→Prop) (n b:Nat):Prop:=S b∨(n≤b∧b<n+2)
theorem fh_two {S:Nat→Prop} {n fb:Nat} {sl:Value} {b:Nat} (h:FH (S2w S n) fb sl b):FH S fb sl b∨n≤b:=by
 rcases h with ((h | h) | h) | h
 ·exact .inl (.inl (.inl h))
 ·exact .inr h.1
 ·exact .inl (.inl (.inr h))
 ·exact .inl (.inr h)
theorem fh_two_lt {S:Nat→Prop} {fb:Nat} {sl:Value} {w W:World} (hl:∀b,FH S fb sl b→b<w.heap.size) (hz:w.heap.size+2≤W.heap.size) {b:Nat} (h:FH (S2w S w.heap.size) fb sl b):b<W.heap.size:=by
 rcases h with ((h | h) | h) | h
 ·have:=hl b (.inl (.inl h));omega
 ·omega
 ·have:=hl b (.inl (.inr h));omega
 ·have:=hl b (.inr h);omega
theorem foE_two {b0:Nat} {S:Nat→Prop} {fb base:Nat} {sl:Value} {cs:List Dat} {w W:World} (hf:FoE b0 w S fb base sl cs) (hb:Below w.heap.size w W) (hz:w.heap.size+2≤W.heap.size):FoE b0 W (S2w S w.heap.size) fb base sl cs:=
 ⟨hf.fo.more hb (fun _ h=>.inl h) (fun b h=>h.elim .inl fun h=>.inr h.1) (fun b h=>h.elim (fun h=>Nat.lt_of_lt_of_le (hf.fo.lt b (.inl (.inl h))) hb.size) fun h=>by omega),hf.env.kept (hb.mono (Nat.le_trans hf.lf (Nat.le_of_lt hf.fo.box.lt))),hf.lf,hf.lb,hf.good,hf.few⟩
theorem foE_back {b0:Nat} {S:Nat→Prop} {fb base:Nat} {sl:Value} {cs:List Dat} {n:Nat} {W W':World} (hf:FoE b0 W (S2w S n) fb base sl cs) (ht:Turned (fun b=>b=n) W W') (hfb:fb<n) (hn:b0≤n) (hb:b0≤W.heap.size):FoE b0 W' S fb base sl cs:=by
 have h1:=hf.fo.turned ht (fun b _ h=>.inr ⟨by omega,by omega⟩) (by omega)
 exact ⟨⟨h1.box,h1.row.less (fun b h=>h.elim (fun h=>.inl (.inl h)) .inr) (Nat.le_refl _)⟩,hf.env.kept (ht.below (fun b h=>by omega) hb),hf.lf,hf.lb,hf.good,hf.few⟩
end
end Go.Proofs.YtgbibibmpoekiaaGreatDoor
