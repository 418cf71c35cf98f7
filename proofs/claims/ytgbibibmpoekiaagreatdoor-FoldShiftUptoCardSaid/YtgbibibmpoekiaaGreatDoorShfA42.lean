/-
  What the proofs lean on: FlS, FlU.
-/
import Derived.Test.YtgbibibmpoekiaaGreatDoorShfA21
import Derived.Test.YtgbibibmpoekiaaGreatDoorShfA24
import Derived.Test.YtgbibibmpoekiaaGreatDoorShfA26
import Derived.Test.YtgbibibmpoekiaaGreatDoorShfA38
import Derived.Test.YtgbibibmpoekiaaGreatDoorShfA40
import Derived.Test.YtgbibibmpoekiaaGreatDoorShfA41
set_option maxRecDepth 100000
set_option maxHeartbeats 16000000
namespace Go.Proofs.YtgbibibmpoekiaaGreatDoor
section
open Go Go.RowKit
theorem rk_inj (k:Int):∀a b,rk k a=rk k b→a=b:=by
 intro a b h
 unfold rk at h
 split at h<;>split at h
 ·unfold wrap64 at h;omega
 ·unfold wrap64 at h;omega
 ·unfold wrap64 at h;omega
 ·exact h
def PrV (S:Nat→Prop) (p:Option (Trm × List Dat)) (v:Value) (W:World):Prop:=match p with
 | none=>v=.agg #[.slice none 0 0,.int .i64 0,.int .i64 0,.slice none 0 0,.slice none 0 0]
 | some q=>∃(oc:Option Addr) (lc kc:Nat) (o n:Int) (ov:Option Addr) (lv cv:Nat) (ot:Option Addr) (lt ct:Nat),v=.agg #[.slice oc lc kc,.int .i64 o,.int .i64 n,.slice ov lv cv,.slice ot lt ct]∧RepS (hide W S) W.heap.size q.2 (.slice oc lc kc)∧TrmR (hide W S) W.heap.size q.1 [.int .i64 o,.int .i64 n,.slice ov lv cv,.slice ot lt ct]
def errV (p:Option (Trm × List Dat)):Int:=match p with | none=>5 | some _=>0
def CvV (S:Nat→Prop) (p:Option (Trm × List Dat)) (v:Value) (W:World):Prop:=∃u,v=.tuple #[u,.int .i64 (errV p)]∧PrV S p u W
theorem PrV.form {S:Nat→Prop} {p:Option (Trm × List Dat)} {v:Value} {W:World} (h:PrV S p v W):∃(oc:Option Addr) (lc kc:Nat) (o n:Int) (ov:Option Addr) (lv cv:Nat) (ot:Option Addr) (lt ct:Nat),v=.agg #[.slice oc lc kc,.int .i64 o,.int .i64 n,.slice ov lv cv,.slice ot lt ct]:=by
 cases p with
 | none=>exact ⟨_,_,_,_,_,_,_,_,_,_,_,h⟩
 | some q=>
  obtain ⟨oc,lc,kc,o,n,ov,lv,cv,ot,lt,ct,h,_⟩:=h
  exact ⟨_,_,_,_,_,_,_,_,_,_,_,h⟩
theorem PrV.shown {S S':Nat→Prop} {p:Option (Trm × List Dat)} {v:Value} {W W':World} (h:PrV S p v W) (hs:Shown W S W' S') (hz:W.heap.size≤W'.heap.size):PrV S' p v W':=by
 cases p with
 | none=>exact h
 | some q=>
  obtain ⟨oc,lc,kc,o,n,ov,lv,cv,ot,lt,ct,h,h1,h2⟩:=h
  exact ⟨oc,lc,kc,o,n,ov,lv,cv,ot,lt,ct,h,h1.shown hs hz,h2.shown hs hz⟩
theorem CvV.shown {S S':Nat→Prop} {p:Option (Trm × List Dat)} {v:Value} {W W':World} (h:CvV S p v W) (hs:Shown W S W' S') (hz:W.heap.size≤W'.heap.size):CvV S' p v W':=by
 obtain ⟨u,h1,h2⟩:=h
 exact ⟨u,h1,h2.shown hs hz⟩
theorem CvPostS.val {S:Nat→Prop} {p:Option (Trm × List Dat)} {w w':World} {e:Ending} (h:CvPostS S p w e w'):∃v,e=.returned v∧CvV S p v w'∧Below w.heap.size w w':=by
 obtain ⟨h1,h2⟩:=h
 cases p with
 | none=>exact ⟨_,h2,⟨_,rfl,rfl⟩,h1⟩
 | some q=>
  obtain ⟨x,cs⟩:=q
  obtain ⟨oc,lc,kc,o,n,ov,lv,cv,ot,lt,ct,h2,h3,h4⟩:=h2
  exact ⟨_,h2,⟨_,rfl,oc,lc,kc,o,n,ov,lv,cv,ot,lt,ct,rfl,h3,h4⟩,h1⟩
def PgO (b:Nat) (p:Option (Trm × List Dat)) (W:World):Prop:=∃(oc:Option Addr) (lc kc:Nat) (o n:Int) (ov:Option Addr) (lv cv:Nat) (ot:Option Addr) (lt ct:Nat),BoxL W b 28 [.slice oc lc kc,.int .i64 o,.int .i64 n,.slice ov lv cv,.slice ot lt ct]∧PrV (fun c=>c=b) p (.agg #[.slice oc lc kc,.int .i64 o,.int .i64 n,.slice ov lv cv,.slice ot lt ct]) W
theorem PgO.keep {b:Nat} {p:Option (Trm × List Dat)} {W W':World} (h:PgO b p W) (hb:Below W.heap.size W W'):PgO b p W':=by
 obtain ⟨oc,lc,kc,o,n,ov,lv,cv,ot,lt,ct,h1,h2⟩:=h
 exact ⟨oc,lc,kc,o,n,ov,lv,cv,ot,lt,ct,h1.keep hb,h2.shown (Shown.below hb) hb.size⟩
theorem PgO.new {p:Option (Trm × List Dat)} {W:World} {oc:Option Addr} {lc kc:Nat} {o n:Int} {ov:Option Addr} {lv cv:Nat} {ot:Option Addr} {lt ct:Nat} {S:Nat→Prop} (h:PrV S p (.agg #[.slice oc lc kc,.int .i64 o,.int .i64 n,.slice ov lv cv,.slice ot lt ct]) W) :
  PgO W.heap.size p (W.alloc (.cells #[.slice oc lc kc,.int .i64 o,.int .i64 n,.slice ov lv cv,.slice ot lt ct] 28)):=by
 have hb:=Below.one W (.cells #[.slice oc lc kc,.int .i64 o,.int .i64 n,.slice ov lv cv,.slice ot lt ct] 28)
 exact ⟨oc,lc,kc,o,n,ov,lv,cv,ot,lt,ct,BoxL.new rfl _ _,h.shown (Shown.move (T:=fun _=>False) (.of_below hb) (fun _ _ h=>h.elim) fun b e=>.inr (by omega)) hb.size⟩
theorem PgO.set {b:Nat} {p:Option (Trm × List Dat)} {W:World} {S:Nat→Prop} {oc:Option Addr} {lc kc:Nat} {o n:Int} {ov:Option Addr} {lv cv:Nat} {ot:Option Addr} {lt ct:Nat} {c0 c1 c2 c3 c4:Value} (hb:BoxL W b 28 [c0,c1,c2,c3,c4]) (hS:S b) (h:PrV S p (.agg #[.slice oc lc kc,.int .i64 o,.int .i64 n,.slice ov lv cv,.slice ot lt ct]) W) :
  PgO b p (set5 W b (.slice oc lc kc) (.int .i64 o) (.int .i64 n) (.slice ov lv cv) (.slice ot lt ct)):=by
 have ht:=set5_turned W (S:=fun c=>c=b) (b:=b) rfl (.slice oc lc kc) (.int .i64 o) (.int .i64 n) (.slice ov lv cv) (.slice ot lt ct)
 exact ⟨oc,lc,kc,o,n,ov,lv,cv,ot,lt,ct,set5_boxL hb _ _ _ _ _,h.shown (Shown.move ht (fun c _ e=>by rw[e];exact hS) fun c e=>.inl (by rw[e];exact hS)) ht.size⟩
theorem wp_build2F {P:Program} {o:Oper} {a:Act} {w:World} {Q:Exit→Act→World→Prop} {K:Act→World→Prop} {t s1 s2 i1 i2:Nat} {x1 x2 v:Value} (ho:o.op=.build t #[(i1,.tmp s1),(i2,.tmp s2)]) (h1:a.tmps.getD s1 undef=x1) (h2:a.tmps.getD s2 undef=x2) (hm:(Instr.build t #[(i1,x1),(i2,x2)]).run P w=.ok v w) (hK:K (a.put o.dst v) w):o.wp P a w K Q:=by
 refine wp_valF (v:=v) (w':=w) ?_ hK
 unfold execOp
 rw[ho]
 have hmap:(#[(i1,Operand.tmp s1),(i2,Operand.tmp s2)]:Array (Nat × Operand)).map (fun (i,x)=>(i,a.eval x))=#[(i1,x1),(i2,x2)]:=by
  simp only[List.map_toArray,List.map_cons,List.map_nil]
  rw[←h1,←h2];rfl
 show (do let r ←Instr.build t ((#[(i1,Operand.tmp s1),(i2,Operand.tmp s2)]:Array (Nat × Operand)).map (fun (i,x)=>(i,a.eval x)));pure (Next.value r):Sem Next).run P w=_
 rw[hmap]
 simp only[Sem.run_bind,Sem.run_pure,hm,Result.andThen_ok]
def Sb (a:Act) (c:Nat):Prop:=a.tmps.getD 9 undef=.pointer (some ⟨c,0,none⟩)
def SiR (z n0:Nat) (cc:Value) (xc:List Value) (k:Int) (p:Option (Trm × List Dat)) (listed:Array Bool) (i:Nat) (v:Value) (W:World):Prop:=match i with
 | 0=>v=.pointer (some ⟨n0,0,none⟩)
 | 1=>v=cc
 | 2=>v=.pointer (some ⟨n0,1,none⟩)
 | 3=>v=.agg xc.toArray
 | 4=>v=.int .i64 k
 | 10=>v=.int .i64 (errV p)
 | 11=>∃b,v=.pointer (some ⟨b,0,none⟩)∧z≤b∧(listed.getD 12 false=false→BoxL W b 28 [.slice none 0 0,.int .i64 0,.int .i64 0,.slice none 0 0,.slice none 0 0])
 | 13=>v=.int .i64 (errV p)
 | _=>True
theorem siR_other {z n0:Nat} {cc:Value} {xc:List Value} {k:Int} {p:Option (Trm × List Dat)} {listed listed':Array Bool} {j:Nat} {u:Value} {A B:World} (h:SiR z n0 cc xc k p listed j u A) (hj:j≠11):SiR z n0 cc xc k p listed' j u B:=by
 match j,hj with
 | 0,_=>exact h
 | 1,_=>exact h
 | 2,_=>exact h
 | 3,_=>exact h
 | 4,_=>exact h
 | 5,_=>trivial
 | 6,_=>trivial
 | 7,_=>trivial
 | 8,_=>trivial
 | 9,_=>trivial
 | 10,_=>exact h
 | 12,_=>trivial
 | 13,_=>exact h
 | j+14,_=>trivial
theorem siR_below {z n0:Nat} {cc:Value} {xc:List Value} {k:Int} {p:Option (Trm × List Dat)} {listed listed':Array Bool} {j:Nat} {u:Value} {A B:World} (h:SiR z n0 cc xc k p listed j u A) (hb:Below A.heap.size A B) (hl:listed'.getD 12 false=listed.getD 12 false):SiR z n0 cc xc k p listed' j u B:=by
 by_cases hj:j=11
 ·subst hj
  obtain ⟨b,h1,h2,h3⟩:=h
  exact ⟨b,h1,h2,fun g=>(h3 (by rw[←hl];exact g)).keep hb⟩
 ·exact siR_other h hj
structure SiP (W0:World) (cc:Value) (y:Trm) (p:Option (Trm × List Dat)) (listed:Array Bool) (a:Act) (W:World):Prop where
 below:Below W0.heap.size W0 W
 l9:∀c,Sb a c→W0.heap.size≤c∧c<W.heap.size
 n9:listed.getD 11 false=false→∀c,¬Sb a c
 t5:listed.getD 5 false=true→TmV (Sb a) y (a.tmps.getD 43 undef) W
 t6:listed.getD 6 false=true→∃c0 c1 c2 c3,a.tmps.getD 44 undef=.agg #[cc,c0,c1,c2,c3]∧TrmR (hide W (Sb a)) W.heap.size y [c0,c1,c2,c3]
 t7:listed.getD 7 false=true→CvV (Sb a) p (a.tmps.getD 45 undef) W
 t8:listed.getD 8 false=true→CvV (Sb a) p (a.tmps.getD 37 undef) W
 t9:listed.getD 9 false=true→PrV (Sb a) p (a.tmps.getD 46 undef) W
 l12:listed.getD 12 false=true→listed.getD 11 false=true
 t12:listed.getD 12 false=true→∃b,Sb a b∧PgO b p W
theorem listed_of {listed:Array Bool} {i k:Nat} (h:(listed.setIfInBounds i true).getD k false=true) (hk:i≠k):listed.getD k false=true:=by rwa[getD_set_ne false hk] at h
section
variable {W0 : World} {cc : Value} {y : Trm} {p : Option (Trm × List Dat)} {listed : Array Bool} {a : Act} {W W' : World}
theorem SiP.step (h:SiP W0 cc y p listed a W) {i d:Nat} {v:Value} (hd:d<a.tmps.size) (h9:d≠9) (h11:i≠11) (h12:i≠12) (hb:Below W.heap.size W W')
  (e5:d≠43∧i≠5∨d=43∧TmV (Sb a) y v W') (e6:d≠44∧i≠6∨d=44∧∃c0 c1 c2 c3,v=.agg #[cc,c0,c1,c2,c3]∧TrmR (hide W' (Sb a)) W'.heap.size y [c0,c1,c2,c3]) (e7:d≠45∧i≠7∨d=45∧CvV (Sb a) p v W') (e8:d≠37∧i≠8∨d=37∧CvV (Sb a) p v W') (e9:d≠46∧i≠9∨d=46∧PrV (Sb a) p v W') :
  SiP W0 cc y p (listed.setIfInBounds i true) (a.put (some d) v) W':=by
 have hg:∀t,(a.put (some d) v).tmps.getD t undef=if d=t then v else a.tmps.getD t undef:=fun t=>put_getD hd
 have hSb:Sb (a.put (some d) v)=Sb a:=by
  funext c
  unfold Sb
  rw[hg,if_neg h9]
 refine ⟨h.below.trans (hb.mono h.below.size),fun c hc=>?_,fun hl c hc=>?_,fun hl=>?_,fun hl=>?_,fun hl=>?_,fun hl=>?_,fun hl=>?_,fun hl=>?_,fun hl=>?_⟩
 ·rw[hSb] at hc
  have:=h.l9 c hc
  exact ⟨this.1,Nat.lt_of_lt_of_le this.2 hb.size⟩
 ·rw[hSb] at hc
  exact h.n9 (by rwa[getD_set_ne false h11] at hl) c hc
 ·rw[hSb,hg]
  rcases e5 with ⟨e,e'⟩ | ⟨e,e'⟩
  ·rw[if_neg e];exact (h.t5 (listed_of hl e')).shown (Shown.below hb) hb.size
  ·rw[if_pos e];exact e'
 ·rw[hSb,hg]
  rcases e6 with ⟨e,e'⟩ | ⟨e,e'⟩
  ·rw[if_neg e]
   obtain ⟨c0,c1,c2,c3,h1,h2⟩:=h.t6 (listed_of hl e')
   exact ⟨c0,c1,c2,c3,h1,h2.shown (Shown.below hb) hb.size⟩
  ·rw[if_pos e];exact e'
 ·rw[hSb,hg]
  rcases e7 with ⟨e,e'⟩ | ⟨e,e'⟩
  ·rw[if_neg e];exact (h.t7 (listed_of hl e')).shown (Shown.below hb) hb.size
  ·rw[if_pos e];exact e'
 ·rw[hSb,hg]
  rcases e8 with ⟨e,e'⟩ | ⟨e,e'⟩
  ·rw[if_neg e];exact (h.t8 (listed_of hl e')).shown (Shown.below hb) hb.size
  ·rw[if_pos e];exact e'
 ·rw[hSb,hg]
  rcases e9 with ⟨e,e'⟩ | ⟨e,e'⟩
  ·rw[if_neg e];exact (h.t9 (listed_of hl e')).shown (Shown.below hb) hb.size
  ·rw[if_pos e];exact e'
 ·rw[getD_set_ne false h11];exact h.l12 (listed_of hl h12)
 ·rw[hSb]
  obtain ⟨b,h1,h2⟩:=h.t12 (listed_of hl h12)
  exact ⟨b,h1,h2.keep hb⟩
theorem SiP.pure (h:SiP W0 cc y p listed a W) {i d:Nat} {v:Value} (hd:d<a.tmps.size) (hx:(decide (d≠9)&&(decide (i≠11∧i≠12)&&(decide (d≠43∧i≠5)&&(decide (d≠44∧i≠6)&&(decide (d≠45∧i≠7)&&(decide (d≠37∧i≠8)&&decide (d≠46∧i≠9)))))))=true):SiP W0 cc y p (listed.setIfInBounds i true) (a.put (some d) v) W:=by
 simp only[Bool.and_eq_true,decide_eq_true_eq] at hx
 obtain ⟨h1,h2,h3,h4,h5,h6,h7⟩:=hx
 exact h.step hd h1 h2.1 h2.2 (Below.refl _ _) (.inl h3) (.inl h4) (.inl h5) (.inl h6) (.inl h7)
theorem SiP.box (h:SiP W0 cc y p listed a W) {o:Obj} (hd:9<a.tmps.size) (hli:11<listed.size) (hu:listed.getD 11 false=false):SiP W0 cc y p (listed.setIfInBounds 11 true) (a.put (some 9) (.pointer (some ⟨W.heap.size,0,none⟩))) (W.alloc o):=by
 have hb:=Below.one W o
 have hg:∀t,t≠9→(a.put (some 9) (.pointer (some ⟨W.heap.size,0,none⟩))).tmps.getD t undef=a.tmps.getD t undef:=fun t ht=>by rw[put_getD hd,if_neg (Ne.symm ht)]
 have hSb:∀c,Sb (a.put (some 9) (.pointer (some ⟨W.heap.size,0,none⟩))) c→c=W.heap.size:=fun c hc=>by
  unfold Sb at hc
  rw[put_getD hd,if_pos rfl] at hc
  simp only[Value.pointer.injEq,Option.some.injEq,Addr.mk.injEq,and_true] at hc
  exact hc.symm
 have hs:Shown W (Sb a) (W.alloc o) (Sb (a.put (some 9) (.pointer (some ⟨W.heap.size,0,none⟩)))):=shown_more hb fun c hc=>.inr (by rw[hSb c hc];exact Nat.le_refl _)
 have hl':∀k,k≠11→(listed.setIfInBounds 11 true).getD k false=true→listed.getD k false=true:=fun k hk h=>listed_of h (Ne.symm hk)
 have hz:=h.below.size
 refine ⟨h.below.trans (hb.mono hz),fun c hc=>?_,fun hl c hc=>?_,fun hl=>?_,fun hl=>?_,fun hl=>?_,fun hl=>?_,fun hl=>?_,fun _=>by simp[hli],fun hl=>?_⟩
 ·rw[hSb c hc];exact ⟨hz,by simp⟩
 ·simp[hli] at hl
 ·rw[hg 43 (by decide)];exact (h.t5 (hl' 5 (by decide) hl)).shown hs hb.size
 ·rw[hg 44 (by decide)]
  obtain ⟨c0,c1,c2,c3,h1,h2⟩:=h.t6 (hl' 6 (by decide) hl)
  exact ⟨c0,c1,c2,c3,h1,h2.shown hs hb.size⟩
 ·rw[hg 45 (by decide)];exact (h.t7 (hl' 7 (by decide) hl)).shown hs hb.size
 ·rw[hg 37 (by decide)];exact (h.t8 (hl' 8 (by decide) hl)).shown hs hb.size
 ·rw[hg 46 (by decide)];exact (h.t9 (hl' 9 (by decide) hl)).shown hs hb.size
 ·have:=h.l12 (hl' 12 (by decide) hl);rw[hu] at this;cases this
theorem SiP.set (h:SiP W0 cc y p listed a W) {b:Nat} (hS:Sb a b) (h11:listed.getD 11 false=true) (d0 d1 d2 d3 d4:Value) (hp:PgO b p (set5 W b d0 d1 d2 d3 d4)):SiP W0 cc y p (listed.setIfInBounds 12 true) (a.put none undef) (set5 W b d0 d1 d2 d3 d4):=by
 have ht:=set5_turned W (S:=fun c=>c=b) (b:=b) rfl d0 d1 d2 d3 d4
 have hs:Shown W (Sb a) (set5 W b d0 d1 d2 d3 d4) (Sb a):=Shown.turned ht fun c _ e=>by rw[e];exact hS
 have hz:=ht.size
 have hb:=(h.l9 b hS).1
 refine ⟨h.below.trans (ht.below (fun c e=>by omega) h.below.size),fun c hc=>?_,fun hl=>h.n9 (by rwa[getD_set_ne false (by decide)] at hl),fun hl=>?_,fun hl=>?_,fun hl=>?_,fun hl=>?_,fun hl=>?_,fun _=>by rw[getD_set_ne false (by decide)];exact h11,fun _=>⟨b,hS,hp⟩⟩
 ·have:=h.l9 c hc
  exact ⟨this.1,Nat.lt_of_lt_of_le this.2 hz⟩
 ·exact (h.t5 (listed_of hl (by decide))).shown hs hz
 ·obtain ⟨c0,c1,c2,c3,h1,h2⟩:=h.t6 (listed_of hl (by decide))
  exact ⟨c0,c1,c2,c3,h1,h2.shown hs hz⟩
 ·exact (h.t7 (listed_of hl (by decide))).shown hs hz
 ·exact (h.t8 (listed_of hl (by decide))).shown hs hz
 ·exact (h.t9 (listed_of hl (by decide))).shown hs hz
end
end
section
open Go Go.RowKit
theorem len_allD:∀l:List Dat,l.length≤Dat.allL l
 | []=>Nat.zero_le _
 | x::l=>by
  have:=len_allD l
  have h1:1≤Dat.all x:=by obtain ⟨k,n,d,s,l⟩:=x;rw[Dat.all];omega
  rw[Dat.allL,List.length_cons]
  omega
theorem alike_selfU (x:Dat):Dat.alike x x=true:=by
 induction x using Dat.ind with
 | h k n d s l ih=>
  have key:∀l:List Dat,(∀y∈l,Dat.alike y y=true)→Dat.alikeL l l=true:=fun l=>by
   induction l with
   | nil=>intro _;rfl
   | cons x l ihl=>intro h;rw[Dat.alikeL,h x (by simp),ihl fun y hy=>h y (List.mem_cons_of_mem _ hy)];rfl
  rw[Dat.alike,key l ih]
  simp
theorem all2_selfU (l:List Dat):all2 Dat.alike l l=true:=by
 rw[←alikeL_all2]
 induction l with
 | nil=>rfl
 | cons x l ih=>rw[Dat.alikeL,alike_selfU,ih];rfl
theorem PgO.some {b:Nat} {q:Trm × List Dat} {W:World} (h:PgO b (some q) W):∃(oc:Option Addr) (lc kc:Nat) (o n:Int) (ov:Option Addr) (lv cv:Nat) (ot:Option Addr) (lt ct:Nat),BoxL W b 28 [.slice oc lc kc,.int .i64 o,.int .i64 n,.slice ov lv cv,.slice ot lt ct] ∧
  RepS W W.heap.size q.2 (.slice oc lc kc)∧TrmR W W.heap.size q.1 [.int .i64 o,.int .i64 n,.slice ov lv cv,.slice ot lt ct]:=by
 obtain ⟨oc,lc,kc,o,n,ov,lv,cv,ot,lt,ct,h1,h2⟩:=h
 obtain ⟨oc',lc',kc',o',n',ov',lv',cv',ot',lt',ct',he,h3,h4⟩:=h2
 simp only[Value.agg.injEq,Array.mk.injEq,List.cons.injEq,Value.slice.injEq,Value.int.injEq,and_true,true_and] at he
 obtain ⟨⟨rfl,rfl,rfl⟩,rfl,rfl,⟨rfl,rfl,rfl⟩,rfl,rfl,rfl⟩:=he
 exact ⟨oc,lc,kc,o,n,ov,lv,cv,ot,lt,ct,h1,h3.unhide,h4.unhide⟩
def SeR (n7:Nat) (cc:Value) (xc rc:List Value) (k:Int) (y:Trm) (i:Nat) (v:Value) (W:World):Prop:=match i with
 | 0=>v=.bool true
 | 1=>v=.bool true
 | 2=>v=.pointer (some ⟨n7,0,none⟩)
 | 3=>v=cc
 | 4=>v=.pointer (some ⟨n7,1,none⟩)
 | 5=>v=.agg xc.toArray
 | 6=>v=.int .i64 k
 | 7=>TmV (fun _=>False) y v W
 | 8=>∃c0 c1 c2 c3,v=.agg #[cc,c0,c1,c2,c3]∧TrmR W W.heap.size y [c0,c1,c2,c3]
 | 9=>v=.agg rc.toArray
 | 10=>v=.bool true
 | 11=>v=.bool true
 | 12=>v=.bool true
 | _=>True
theorem seR_below {n7:Nat} {cc:Value} {xc rc:List Value} {k:Int} {y:Trm} {j:Nat} {u:Value} {A B:World} (h:SeR n7 cc xc rc k y j u A) (hb:Below A.heap.size A B):SeR n7 cc xc rc k y j u B:=by
 match j with
 | 0=>exact h
 | 1=>exact h
 | 2=>exact h
 | 3=>exact h
 | 4=>exact h
 | 5=>exact h
 | 6=>exact h
 | 7=>exact TmV.shown h (Shown.below hb) hb.size
 | 8=>
  obtain ⟨c0,c1,c2,c3,h1,h2⟩:=h
  exact ⟨c0,c1,c2,c3,h1,TrmR.wider hb.size _ _ (TrmR.kept hb _ _ h2)⟩
 | 9=>exact h
 | 10=>exact h
 | 11=>exact h
 | 12=>exact h
 | j+13=>trivial
theorem foldShift_walk (cs:List Dat) (x:Trm) (cc c0 c1 c2 c3:Value) (by_:Int) (w:World) (hcon:RepS w w.heap.size cs cc) (hbody:TrmR w w.heap.size x [c0,c1,c2,c3]) (hE:Env w) (hbk:Dat.bulkL cs≤1048576) (hbd:x.bnd.length≤1048576) :
  Calls Tryz.prog 5 #[.agg #[cc,c0,c1,c2,c3],.int .i64 by_] w fun e w'=>e=.returned (.bool true)∧Below w.heap.size w w':=by
 obtain ⟨q,r,u,q',r',u',rfl,rfl,rfl,rfl⟩:=hbody.shape2
 obtain ⟨oc,lc,kc,rfl⟩:∃o l c,cc=.slice o l c:=by obtain ⟨o,l,c,h,_⟩:=hcon;exact ⟨o,l,c,h⟩
 obtain ⟨W1,hW1⟩:∃W1,w.alloc (.cells #[.slice oc lc kc,.int .i64 x.op,.int .i64 x.n,.slice q r u,.slice q' r' u'] 28)=W1:=⟨_,rfl⟩
 have HB1:=Lib.hid (show Below w.heap.size w W1 from by rw[←hW1];exact Below.one w _)
 have HX1:=Lib.hid (show BoxL W1 w.heap.size 28 [.slice oc lc kc,.int .i64 x.op,.int .i64 x.n,.slice q r u,.slice q' r' u'] from by rw[←hW1];exact BoxL.new rfl _ _)
 have HAW:=Lib.hid (awake11_any W1 (env_kept hE HB1.out))
 have HCON:=Lib.hid (fun W (hb:Below w.heap.size w W)=>hcon.kept hb)
 have HBODY:=Lib.hid (fun W (hb:Below w.heap.size w W)=>TrmR.kept hb _ _ hbody)
 have HENV:=Lib.hid (fun W (hb:Below w.heap.size w W)=>env_kept hE hb)
 have HW:=Lib.hid hW1
 obtain ⟨f1,hf1⟩:∃f1,decide ((x.all:Int)≤200)=f1:=⟨_,rfl⟩
 obtain ⟨f2,hf2⟩:∃f2,decide ((Dat.allL cs:Int)≤2000)=f2:=⟨_,rfl⟩
 have HF1:=Lib.hid (fun W (hb:Below w.heap.size w W)=>show Calls Tryz.prog 14 #[.agg #[.int .i64 x.op,.int .i64 x.n,.slice q r u,.slice q' r' u'],.int .i64 200] W fun e w'=>e=.returned (.bool f1)∧Below W.heap.size W w' from by
  have:=tFew_any x _ _ _ _ 200 w.heap.size W (HBODY.out W hb) hb.size (by omega) (by omega)
  rwa[hf1] at this)
 have HF2:=Lib.hid (fun W (hb:Below w.heap.size w W)=>rfewAll_to cs (.slice oc lc kc) 2000 w.heap.size W (HCON.out W hb) hb.size (by omega) (by omega) f2 hf2)
 have HF1E:=Lib.hid hf1
 have HF2E:=Lib.hid hf2
 have HBK:=Lib.hid hbk
 have HBD:=Lib.hid hbd
 clear hcon hbody hE hW1 hf1 hf2 hbk hbd
 go_enter Tryz.func5,Tryz.ntmps5
 go_upto_region 1 with fail
 rw[HW.out]
 clear HW
 go_wp2_with fail
 refine HAW.out.mono ?_
 rintro e W2 ⟨rfl,hb2⟩
 have HB2:=Lib.hid (HB1.out.trans (hb2.mono HB1.out.size))
 have HX2:=Lib.hid (HX1.out.keep hb2)
 clear hb2 HAW HX1 HB1
 have x0:=HX2.out.cell 0 rfl
 have x1:=HX2.out.cell 1 rfl
 have x2:=HX2.out.cell 2 rfl
 have x3:=HX2.out.cell 3 rfl
 have x4:=HX2.out.cell 4 rfl
 have xl:=HX2.out.lt
 go_wp2_with fail
 refine (HF1.out W2 HB2.out).mono ?_
 rintro e W3 ⟨rfl,hb3⟩
 have HB3:=Lib.hid (HB2.out.trans (hb3.mono HB2.out.size))
 have HX3:=Lib.hid (HX2.out.keep hb3)
 clear hb3 HF1 HX2 HB2 x0 x1 x2 x3 x4 xl
 have x0:=HX3.out.cell 0 rfl
 have xl:=HX3.out.lt
 cases f1 with
 | false=>
  go_wp2_with fail
  go_ret
  exact ⟨rfl,HB3.out⟩
 | true=>
  have hxa:x.all≤200:=by have:=of_decide_eq_true HF1E.out;omega
  go_wp2_with fail
  refine (HF2.out W3 HB3.out).mono ?_
  rintro e W4 ⟨rfl,hb4⟩
  have HB4:=Lib.hid (HB3.out.trans (hb4.mono HB3.out.size))
  have HX4:=Lib.hid (HX3.out.keep hb4)
  clear hb4 HF2 HX3 HB3 x0 xl
  cases f2 with
  | false=>
   go_wp2_with fail
   go_ret
   exact ⟨rfl,HB4.out⟩
  | true=>
   have hca:cs.length≤2000:=by have:=of_decide_eq_true HF2E.out;have:=len_allD cs;omega
   have HCA:=Lib.hid hca
   clear hca
   have x1:=HX4.out.cell 1 rfl
   have x2:=HX4.out.cell 2 rfl
   have x3:=HX4.out.cell 3 rfl
   have x4:=HX4.out.cell 4 rfl
   have xl:=HX4.out.lt
   have HBI:=Lib.hid (rBinds_any x _ _ _ _ w.heap.size W4 (HBODY.out W4 HB4.out) HB4.out.size (by omega) (by have:=HBD.out;omega))
   go_wp2_with fail
   refine HBI.out.mono ?_
   rintro e W5 ⟨ob,nb,cb,lb,rfl,_,_,hb5⟩
   have HB5:=Lib.hid (HB4.out.trans (hb5.mono HB4.out.size))
   have HX5:=Lib.hid (HX4.out.keep hb5)
   clear hb5 HBI HX4 HB4 x1 x2 x3 x4 xl
   by_cases hnb:(nb:Int)=0
   ·have d1:((nb:Int)==0)=true:=by simp[hnb]
    have hnb0:nb=0:=by omega
    subst hnb0
    go_wp2_with fail
    go_ret
    exact ⟨rfl,HB5.out⟩
   ·have d1:((nb:Int)==0)=false:=by simpa using hnb
    have d2:(nb==0)=false:=by simp;omega
    go_upto_region 5 with fail
    generalize bits BinOp.and IntKind.i64 by_ 1023=K
    obtain ⟨p1,hp1⟩:∃p1,Fd.conv cs x=p1:=⟨_,rfl⟩
    obtain ⟨p2,hp2⟩:∃p2,Fd.conv cs (Trm.shift (rk K) x)=p2:=⟨_,rfl⟩
    have HPP:=Lib.hid (show ∀a b,p1=some a→p2=some b→b=(Trm.shift (rk K) a.1,a.2) from fun a b h1 h2=>by
     rw[h1] at hp1
     rw[h2] at hp2
     unfold Fd.conv at hp1 hp2
     split at hp1
     ·rename_i ho1
      split at hp2
      ·cases hp1
       cases hp2
       exact Fd.term_shift (rk_inj K) (Fd.okP_wf ho1)
      ·cases hp2
     ·cases hp1)
    have HQ1:=Lib.hid (show ∀a,p1=some a→a.1.all≤200∧a.1.bnd.length≤1048576 from fun a h1=>by
     rw[h1] at hp1
     unfold Fd.conv at hp1
     split at hp1
     ·rename_i ho1
      cases hp1
      refine ⟨Nat.le_trans (Fd.iter_ok Fd.foldF_right ho1 1).2 hxa,Nat.le_trans (Fd.count_len _ _ fun b=>(Fd.term_fine Fd.foldF x _ cs (Fd.okP_wf ho1)).2 b) HBD.out⟩
     ·cases hp1)
    have hbk2:∀d∈cs,Dat.bulk d≤1048576:=fun d hd=>Nat.le_trans (Fd.bulkL_mem hd) HBK.out
    have HC1:=Lib.hid (show Calls Tryz.prog 10 #[.agg #[.slice oc lc kc,.int .i64 x.op,.int .i64 x.n,.slice q r u,.slice q' r' u']] W5 (CvPostS (fun _=>False) p1 W5) from by
     rw[←hp1]
     exact fconvert_anyS cs x _ _ _ _ _ (fun _=>False) W5 (((HCON.out W5 HB5.out).dug fun _ h=>h.elim).wider HB5.out.size) (TrmR.wider HB5.out.size _ _ ((HBODY.out W5 HB5.out).dug fun _ h=>h.elim)) (fun _ h=>h.elim) (HENV.out W5 HB5.out) (by omega) (fun _=>by have:=HCA.out;omega) (fun _=>hbk2))
    have HC2:=Lib.hid (fun (S:Nat→Prop) (W:World) (hz:∀c,S c→w.heap.size≤c) (hS:∀c,S c→c<W.heap.size) (hb:Below w.heap.size w W) (c0 c1 c2 c3:Value) (ht:TrmR (hide W S) W.heap.size (Trm.shift (rk K) x) [c0,c1,c2,c3])=>show Calls Tryz.prog 10 #[.agg #[.slice oc lc kc,c0,c1,c2,c3]] W (CvPostS S p2 W) from by
     rw[←hp2]
     exact fconvert_anyS cs (Trm.shift (rk K) x) _ _ _ _ _ S W (((HCON.out W hb).dug hz).wider hb.size) ht hS (HENV.out W hb) (by rw[Trm.shift_all];omega) (fun _=>by have:=HCA.out;omega) (fun _=>hbk2))
    have HSH:=Lib.hid (fun (S:Nat→Prop) (W:World) (hz:∀c,S c→w.heap.size≤c) (hS:∀c,S c→c<W.heap.size) (hb:Below w.heap.size w W)=>rshift_any K x S _ _ _ _ W (TrmR.wider hb.size _ _ ((HBODY.out W hb).dug hz)) hS (by omega) (by have:=HBD.out;omega))
    have HXA:=Lib.hid hxa
    clear hp1 hp2 hbk2 d1 d2 hnb HF1E HF2E hxa
    have x0:=HX5.out.cell 0 rfl
    have x1:=HX5.out.cell 1 rfl
    have x2:=HX5.out.cell 2 rfl
    have x3:=HX5.out.cell 3 rfl
    have x4:=HX5.out.cell 4 rfl
    have xl:=HX5.out.lt
    go_wp2_with fail
    refine HC1.out.mono ?_
    intro e W6 h
    obtain ⟨v6,rfl,⟨u6,rfl,hpr⟩,hb6⟩:=h.val
    obtain ⟨o1,l1,k1,g1,n1,ov1,lv1,cv1,ot1,lt1,ct1,rfl⟩:=hpr.form
    have HP7:=Lib.hid (PgO.new hpr)
    have hb7:=hb6.trans ((Below.one W6 (.cells #[.slice o1 l1 k1,.int .i64 g1,.int .i64 n1,.slice ov1 lv1 cv1,.slice ot1 lt1 ct1] 28)).mono hb6.size)
    have HX7:=Lib.hid (HX5.out.keep hb7)
    have HB7:=Lib.hid (HB5.out.trans (hb7.mono HB5.out.size))
    obtain ⟨W7,hW7⟩:∃W7,W6.alloc (.cells #[.slice o1 l1 k1,.int .i64 g1,.int .i64 n1,.slice ov1 lv1 cv1,.slice ot1 lt1 ct1] 28)=W7:=⟨_,rfl⟩
    rw[hW7] at HP7 HX7 HB7
    have HW7:=Lib.hid hW7
    clear hpr hb6 hb7 HC1 HX5 HB5 x0 x1 x2 x3 x4 xl h hW7
    obtain ⟨er1,her1⟩:∃er1,errV p1=er1:=⟨_,rfl⟩
    obtain ⟨er2,her2⟩:∃er2,errV p2=er2:=⟨_,rfl⟩
    rw[her1]
    go_upto_region 6 with fail
    rw[HW7.out]
    clear HW7
    have HD7:=Lib.hid ((Below.refl W7.heap.size W7).drew)
    have HE2:=Lib.hid her2
    have hz7:=HB7.out.size
    go_cut [9,10] (fun pb sv wx=>∃b,pb=.pointer (some ⟨b,0,none⟩)∧sv=.int .i64 er2∧W7.heap.size≤b∧Hid (Below W7.heap.size W7 wx)∧Hid (PgO b p2 wx))
    case first=>as_aux_lemma=>
     refine wp_region_stW [0,1,0,1,0,2,3,4,5,6,8,0,7,9] [] (SiP W7 (.slice oc lc kc) (Trm.shift (rk K) x) p2) (SiR W7.heap.size w.heap.size (.slice oc lc kc) [.int .i64 x.op,.int .i64 x.n,.slice q r u,.slice q' r' u'] K p2) (by kernel_rfl) (by kernel_rfl) (fun _ h=>by cases h) ⟨HD7.out,(fun c h=>by unfold Sb at h;cases h),(fun _ c h=>by unfold Sb at h;cases h),(fun h=>by rw[getD_replicate_false] at h;cases h),(fun h=>by rw[getD_replicate_false] at h;cases h),(fun h=>by rw[getD_replicate_false] at h;cases h),(fun h=>by rw[getD_replicate_false] at h;cases h),(fun h=>by rw[getD_replicate_false] at h;cases h),(fun h=>by rw[getD_replicate_false] at h;cases h),(fun h=>by rw[getD_replicate_false] at h;cases h)⟩ ?hops ?hend
     case hops=>
      intro i o8 hi ho listed a w1 hli hld hph hun hdep hrest hsz
      have hbx:=HX7.out.keep hph.below
      have hbw:=HB7.out.trans (hph.below.mono HB7.out.size)
      have hs67:a.tmps.size=67:=hsz.trans rfl
      match i,hi with
      | 0,_=>
       cases ho
       have h2:a.tmps.getD 2 undef=.pointer (some ⟨w.heap.size,0,none⟩):=hrest.at 2 (by kernel_rfl)
       exact wp_valF (v:=.pointer (some ⟨w.heap.size,0,none⟩)) (w':=w1) (by go_simp) ⟨_,rfl,rfl,hph.pure (d:=38) (by omega) rfl,fun j u _ _ h=>siR_below h (Below.refl _ _) (getD_set_ne false (by decide))⟩
      | 1,_=>
       cases ho
       have h38:a.tmps.getD 38 undef=.pointer (some ⟨w.heap.size,0,none⟩):=hdep.at 0 38 (by kernel_rfl)
       have c0:=hbx.cell 0 rfl
       have cl:=hbx.lt
       exact wp_valF (v:=.slice oc lc kc) (w':=w1) (by go_simp) ⟨_,rfl,rfl,hph.pure (d:=39) (by omega) rfl,fun j u _ _ h=>siR_below h (Below.refl _ _) (getD_set_ne false (by decide))⟩
      | 2,_=>
       cases ho
       have h2:a.tmps.getD 2 undef=.pointer (some ⟨w.heap.size,0,none⟩):=hrest.at 2 (by kernel_rfl)
       exact wp_valF (v:=.pointer (some ⟨w.heap.size,1,none⟩)) (w':=w1) (by go_simp) ⟨_,rfl,rfl,hph.pure (d:=40) (by omega) rfl,fun j u _ _ h=>siR_below h (Below.refl _ _) (getD_set_ne false (by decide))⟩
      | 3,_=>
       cases ho
       have h40:a.tmps.getD 40 undef=.pointer (some ⟨w.heap.size,1,none⟩):=hdep.at 2 40 (by kernel_rfl)
       have c1:=hbx.cell 1 rfl
       have c2:=hbx.cell 2 rfl
       have c3:=hbx.cell 3 rfl
       have c4:=hbx.cell 4 rfl
       have cl:=hbx.lt
       exact wp_valF (v:=.agg #[.int .i64 x.op,.int .i64 x.n,.slice q r u,.slice q' r' u']) (w':=w1) (by go_simp) ⟨_,rfl,rfl,hph.pure (d:=41) (by omega) rfl,fun j u _ _ h=>siR_below h (Below.refl _ _) (getD_set_ne false (by decide))⟩
      | 4,_=>
       cases ho
       exact wp_moveF rfl ⟨_,rfl,hrest.at 6 (by kernel_rfl),hph.pure (d:=42) (by omega) rfl,fun j u _ _ h=>siR_below h (Below.refl _ _) (getD_set_ne false (by decide))⟩
      | 5,_=>
       cases ho
       have h41:a.tmps.getD 41 undef=.agg #[.int .i64 x.op,.int .i64 x.n,.slice q r u,.slice q' r' u']:=hdep.at 3 41 (by kernel_rfl)
       have h42:a.tmps.getD 42 undef=.int .i64 K:=hdep.at 4 42 (by kernel_rfl)
       refine wp_callF (vals:=#[.agg #[.int .i64 x.op,.int .i64 x.n,.slice q r u,.slice q' r' u'],.int .i64 K]) rfl (by simp only[List.map_toArray,List.map_cons,List.map_nil];rw[←h41,←h42];rfl) (fun _ _=>rfl) (HSH.out (Sb a) w1 (fun c h=>Nat.le_trans hz7 (hph.l9 c h).1) (fun c h=>(hph.l9 c h).2) hbw) ?_
       intro e w' h
       obtain ⟨v,rfl,h1,h2⟩:=h.val
       exact ⟨v,rfl,v,rfl,trivial,hph.step (d:=43) (by omega) (by decide) (by decide) (by decide) h2 (.inr ⟨rfl,h1⟩) (.inl ⟨by decide,by decide⟩) (.inl ⟨by decide,by decide⟩) (.inl ⟨by decide,by decide⟩) (.inl ⟨by decide,by decide⟩),fun j u _ _ h=>siR_below h h2 (getD_set_ne false (by decide))⟩
      | 6,_=>
       cases ho
       have h39:a.tmps.getD 39 undef=.slice oc lc kc:=hdep.at 1 39 (by kernel_rfl)
       have hd5:listed.getD 5 false=true:=listed_dep hld 5 (by kernel_rfl)
       obtain ⟨o3,n3,ov3,ot3,lv3,cv3,lt3,ct3,h43,hr3⟩:=hph.t5 hd5
       exact wp_build2F (v:=.agg #[.slice oc lc kc,.int .i64 o3,.int .i64 n3,.slice ov3 lv3 cv3,.slice ot3 lt3 ct3]) rfl h39 h43 (by go_simp) ⟨_,rfl,trivial,hph.step (d:=44) (by omega) (by decide) (by decide) (by decide) (Below.refl _ _) (.inl ⟨by decide,by decide⟩) (.inr ⟨rfl,_,_,_,_,rfl,hr3⟩) (.inl ⟨by decide,by decide⟩) (.inl ⟨by decide,by decide⟩) (.inl ⟨by decide,by decide⟩),fun j u _ _ h=>siR_below h (Below.refl _ _) (getD_set_ne false (by decide))⟩
      | 7,_=>
       cases ho
       have hd6:listed.getD 6 false=true:=listed_dep hld 6 (by kernel_rfl)
       obtain ⟨c0,c1,c2,c3,h44,hr3⟩:=hph.t6 hd6
       refine wp_callF (vals:=#[.agg #[.slice oc lc kc,c0,c1,c2,c3]]) rfl (by simp only[List.map_toArray,List.map_cons,List.map_nil];rw[←h44];rfl) (fun _ _=>rfl) (HC2.out (Sb a) w1 (fun c h=>Nat.le_trans hz7 (hph.l9 c h).1) (fun c h=>(hph.l9 c h).2) hbw c0 c1 c2 c3 hr3) ?_
       intro e w' h
       obtain ⟨v,rfl,h1,h2⟩:=h.val
       exact ⟨v,rfl,v,rfl,trivial,hph.step (d:=45) (by omega) (by decide) (by decide) (by decide) h2 (.inl ⟨by decide,by decide⟩) (.inl ⟨by decide,by decide⟩) (.inr ⟨rfl,h1⟩) (.inl ⟨by decide,by decide⟩) (.inl ⟨by decide,by decide⟩),fun j u _ _ h=>siR_below h h2 (getD_set_ne false (by decide))⟩
      | 8,_=>
       cases ho
       have hd7:listed.getD 7 false=true:=listed_dep hld 7 (by kernel_rfl)
       exact wp_moveF rfl ⟨_,rfl,trivial,hph.step (d:=37) (by omega) (by decide) (by decide) (by decide) (Below.refl _ _) (.inl ⟨by decide,by decide⟩) (.inl ⟨by decide,by decide⟩) (.inl ⟨by decide,by decide⟩) (.inr ⟨rfl,hph.t7 hd7⟩) (.inl ⟨by decide,by decide⟩),fun j u _ _ h=>siR_below h (Below.refl _ _) (getD_set_ne false (by decide))⟩
      | 9,_=>
       cases ho
       have hd8:listed.getD 8 false=true:=listed_dep hld 8 (by kernel_rfl)
       obtain ⟨u3,h37,hr3⟩:=hph.t8 hd8
       exact wp_valF (v:=u3) (w':=w1) (by go_simp) ⟨_,rfl,trivial,hph.step (d:=46) (by omega) (by decide) (by decide) (by decide) (Below.refl _ _) (.inl ⟨by decide,by decide⟩) (.inl ⟨by decide,by decide⟩) (.inl ⟨by decide,by decide⟩) (.inl ⟨by decide,by decide⟩) (.inr ⟨rfl,hr3⟩),fun j u _ _ h=>siR_below h (Below.refl _ _) (getD_set_ne false (by decide))⟩
      | 10,_=>
       cases ho
       have hd8:listed.getD 8 false=true:=listed_dep hld 8 (by kernel_rfl)
       obtain ⟨u3,h37,hr3⟩:=hph.t8 hd8
       exact wp_valF (v:=.int .i64 (errV p2)) (w':=w1) (by go_simp) ⟨_,rfl,rfl,hph.pure (d:=47) (by omega) rfl,fun j u _ _ h=>siR_below h (Below.refl _ _) (getD_set_ne false (by decide))⟩
      | 11,_=>
       cases ho
       have hl12:(listed.setIfInBounds 11 true).getD 12 false=false:=by
        rw[getD_set_ne false (by decide)]
        cases h:listed.getD 12 false with
        | false=>rfl
        | true=>rw[hph.l12 h] at hun;cases hun
       exact wp_valF (v:=.pointer (some ⟨w1.heap.size,0,none⟩)) (w':=w1.alloc (.cells #[.slice none 0 0,.int .i64 0,.int .i64 0,.slice none 0 0,.slice none 0 0] 28)) (by go_simp) ⟨_,rfl,⟨_,rfl,hph.below.size,fun _=>BoxL.new rfl _ _⟩,hph.box (by omega) hli hun,fun j u _ _ h=>siR_below h (Below.one _ _) (getD_set_ne false (by decide))⟩
      | 12,_=>
       cases ho
       have hl12:(listed.setIfInBounds 12 true).getD 12 false=true:=by simp[hli]
       have hd9:listed.getD 9 false=true:=listed_dep hld 9 (by kernel_rfl)
       obtain ⟨b,h9,hzb,hbx9⟩:SiR W7.heap.size w.heap.size (.slice oc lc kc) [.int .i64 x.op,.int .i64 x.n,.slice q r u,.slice q' r' u'] K p2 listed 11 (a.tmps.getD 9 undef) w1:=hdep.at 11 9 (by kernel_rfl)
       have hb9:=hbx9 hun
       have hpr:=hph.t9 hd9
       obtain ⟨o3,l3,k3,g3,n3,ov3,lv3,cv3,ot3,lt3,ct3,h46⟩:=hpr.form
       rw[h46] at hpr
       have HPO:=PgO.set hb9 (show Sb a b from h9) hpr
       have z0:=hb9.cell 0 rfl
       have z1:=hb9.cell 1 rfl
       have z2:=hb9.cell 2 rfl
       have z3:=hb9.cell 3 rfl
       have z4:=hb9.cell 4 rfl
       have y0:=hb9.free 0
       have y1:=hb9.free 1
       have y2:=hb9.free 2
       have y3:=hb9.free 3
       have y4:=hb9.free 4
       have zl:=hb9.lt
       refine wp_skipF (w':=set5 w1 b (.slice o3 l3 k3) (.int .i64 g3) (.int .i64 n3) (.slice ov3 lv3 cv3) (.slice ot3 lt3 ct3)) (by go_simp) ⟨undef,rfl,trivial,hph.set h9 (listed_dep hld 11 (by kernel_rfl)) _ _ _ _ _ HPO,fun j u hj _ h=>?_⟩
       by_cases e:j=11
       ·subst e
        obtain ⟨b',hb',hz',_⟩:=h
        exact ⟨b',hb',hz',fun g=>(by rw[hl12] at g;cases g)⟩
       ·exact siR_other h e
      | 13,_=>
       cases ho
       have h47:a.tmps.getD 47 undef=.int .i64 (errV p2):=hdep.at 10 47 (by kernel_rfl)
       exact wp_valF (v:=.int .i64 (errV p2)) (w':=w1) (by go_simp) ⟨_,rfl,rfl,hph.pure (d:=10) (by omega) rfl,fun j u _ _ h=>siR_below h (Below.refl _ _) (getD_set_ne false (by decide))⟩
      | i+14,hi=>exact absurd hi (by simp)
     case hend=>
      intro listed a w1 hdf hsz hls hph hval hrest
      obtain ⟨b,h9,hpo⟩:=hph.t12 (hls 12 (by simp))
      have h10:a.tmps.getD 10 undef=.int .i64 (errV p2):=hval 13 _ 10 rfl rfl
      have hzb:=(hph.l9 b h9).1
      obtain ⟨f9,ha,hf⟩:=act_spellF [false,false,false,false,false,false,false,false,false,true,true,false,false,false,false,false,false,false,false,false,false,false,false,false,false,false,false,false,false,false,false,false,false,false,false,false,false,true,true,true,true,true,true,true,true,true,true,true,false,false,false,false,false,false,false,false,false,false,false,false,false,false,false,false,false,false,false] (by kernel_rfl) hdf hsz hrest
      unfold Sb at h9
      rw[←hf] at h9 h10
      subst ha
      have HB1:=Lib.hid hph.below
      have HPO:=Lib.hid hpo
      clear hval hrest hf hdf hsz hls hph hpo
      rw[HE2.out] at h10
      simp only[spellF,h9,h10]
      go_wp2_with fail
      go_meet
      exact ⟨b,rfl,rfl,hzb,HB1,HPO⟩
    case rest=>
     obtain ⟨b,rfl,rfl,hzb,HBC,HPO⟩:=hcut
     have HBW:=Lib.hid (HB7.out.trans (HBC.out.mono HB7.out.size))
     have HP7W:=Lib.hid (HP7.out.keep HBC.out)
     clear HSH HC2 HD7 HX7 hz7 HBK HBD HCON HBODY HENV HXA HCA HP7 HBC
     cases p1 with
     | none=>
      obtain rfl:(5:Int)=er1:=her1
      go_wp2_with fail
      go_ret
      exact ⟨rfl,HBW.out⟩
     | some q1=>
      obtain rfl:(0:Int)=er1:=her1
      cases p2 with
      | none=>
       obtain rfl:(5:Int)=er2:=HE2.out
       go_wp2_with fail
       go_ret
       exact ⟨rfl,HBW.out⟩
      | some q2=>
       obtain rfl:(0:Int)=er2:=HE2.out
       obtain ⟨hqa,hqb⟩:=HQ1.out q1 rfl
       obtain rfl:=HPP.out q1 q2 rfl rfl
       obtain ⟨oc5,lc5,kc5,g5,n5,ov5,lv5,cv5,ot5,lt5,ct5,hx5,hr5,ht5⟩:=HP7W.out.some
       obtain ⟨oc6,lc6,kc6,g6,n6,ov6,lv6,cv6,ot6,lt6,ct6,hx6,hr6,ht6⟩:=HPO.out.some
       have HX5:=Lib.hid hx5
       have HX6:=Lib.hid hx6
       have HR5:=Lib.hid (fun W (hb:Below wc.heap.size wc W)=>(show RepS W W.heap.size q1.2 (.slice oc5 lc5 kc5) from (hr5.kept hb).wider hb.size))
       have HR6:=Lib.hid (fun W (hb:Below wc.heap.size wc W)=>(show RepS W W.heap.size q1.2 (.slice oc6 lc6 kc6) from (hr6.kept hb).wider hb.size))
       have HT6:=Lib.hid (fun W (hb:Below wc.heap.size wc W)=>TrmR.wider hb.size _ _ (TrmR.kept hb _ _ ht6))
       have HS5:=Lib.hid (fun (W:World) (hb:Below wc.heap.size wc W)=>rshift_any K q1.1 (fun _=>False) _ _ _ _ W (TrmR.wider hb.size _ _ ((TrmR.kept hb _ _ ht5).dug fun _ h=>h.elim)) (fun _ h=>h.elim) (by omega) (by omega))
       have HD:=Lib.hid ((Below.refl wc.heap.size wc).drew)
       clear hx5 hx6 hr5 hr6 ht5 ht6 hqa hqb HQ1 HPP HP7W HPO
       go_upto_region 9 with fail
       refine wp_region_stW [0,1,2,3,2,3,2,4,5,2,6,7,8] [1] (fun _ _ W=>Below wc.heap.size wc W) (fun _=>SeR W6.heap.size (.slice oc5 lc5 kc5) [.int .i64 g5,.int .i64 n5,.slice ov5 lv5 cv5,.slice ot5 lt5 ct5] [.slice oc6 lc6 kc6,.int .i64 g6,.int .i64 n6,.slice ov6 lv6 cv6,.slice ot6 lt6 ct6] K (Trm.shift (rk K) q1.1)) (by kernel_rfl) (by kernel_rfl) (fun g hg _ v w h=>by simp only[List.mem_singleton] at hg;subst hg;exact h) HD.out ?hops ?hend
       case hops=>
        intro i o8 hi ho listed a w1 hli hld hph hun hdep hrest hsz
        have hb5:=HX5.out.keep hph
        have hb6:=HX6.out.keep hph
        have hs67:a.tmps.size=67:=hsz.trans rfl
        match i,hi with
        | 0,_=>
         cases ho
         exact wp_moveF rfl ⟨_,rfl,hrest.at 5 (by kernel_rfl),hph,fun j u _ _ h=>h⟩
        | 1,_=>
         cases ho
         exact wp_moveF rfl ⟨_,rfl,hdep.at 0 55 (by kernel_rfl),hph,fun j u _ _ h=>h⟩
        | 2,_=>
         cases ho
         have h7:a.tmps.getD 7 undef=.pointer (some ⟨W6.heap.size,0,none⟩):=hrest.at 7 (by kernel_rfl)
         exact wp_valF (v:=.pointer (some ⟨W6.heap.size,0,none⟩)) (w':=w1) (by go_simp) ⟨_,rfl,rfl,hph,fun j u _ _ h=>h⟩
        | 3,_=>
         cases ho
         have h57:a.tmps.getD 57 undef=.pointer (some ⟨W6.heap.size,0,none⟩):=hdep.at 2 57 (by kernel_rfl)
         have c0:=hb5.cell 0 rfl
         have cl:=hb5.lt
         exact wp_valF (v:=.slice oc5 lc5 kc5) (w':=w1) (by go_simp) ⟨_,rfl,rfl,hph,fun j u _ _ h=>h⟩
        | 4,_=>
         cases ho
         have h7:a.tmps.getD 7 undef=.pointer (some ⟨W6.heap.size,0,none⟩):=hrest.at 7 (by kernel_rfl)
         exact wp_valF (v:=.pointer (some ⟨W6.heap.size,1,none⟩)) (w':=w1) (by go_simp) ⟨_,rfl,rfl,hph,fun j u _ _ h=>h⟩
        | 5,_=>
         cases ho
         have h59:a.tmps.getD 59 undef=.pointer (some ⟨W6.heap.size,1,none⟩):=hdep.at 4 59 (by kernel_rfl)
         have c1:=hb5.cell 1 rfl
         have c2:=hb5.cell 2 rfl
         have c3:=hb5.cell 3 rfl
         have c4:=hb5.cell 4 rfl
         have cl:=hb5.lt
         exact wp_valF (v:=.agg #[.int .i64 g5,.int .i64 n5,.slice ov5 lv5 cv5,.slice ot5 lt5 ct5]) (w':=w1) (by go_simp) ⟨_,rfl,rfl,hph,fun j u _ _ h=>h⟩
        | 6,_=>
         cases ho
         exact wp_moveF rfl ⟨_,rfl,hrest.at 6 (by kernel_rfl),hph,fun j u _ _ h=>h⟩
        | 7,_=>
         cases ho
         have h60:a.tmps.getD 60 undef=.agg #[.int .i64 g5,.int .i64 n5,.slice ov5 lv5 cv5,.slice ot5 lt5 ct5]:=hdep.at 5 60 (by kernel_rfl)
         have h61:a.tmps.getD 61 undef=.int .i64 K:=hdep.at 6 61 (by kernel_rfl)
         refine wp_callF (vals:=#[.agg #[.int .i64 g5,.int .i64 n5,.slice ov5 lv5 cv5,.slice ot5 lt5 ct5],.int .i64 K]) rfl (by simp only[List.map_toArray,List.map_cons,List.map_nil];rw[←h60,←h61];rfl) (fun _ _=>rfl) (HS5.out w1 hph) ?_
         intro e w' h
         obtain ⟨v,rfl,h1,h2⟩:=h.val
         exact ⟨v,rfl,v,rfl,h1,hph.trans (h2.mono hph.size),fun j u _ _ h=>seR_below h h2⟩
        | 8,_=>
         cases ho
         have h58:a.tmps.getD 58 undef=.slice oc5 lc5 kc5:=hdep.at 3 58 (by kernel_rfl)
         obtain ⟨o3,n3,ov3,ot3,lv3,cv3,lt3,ct3,h62,hr3⟩:SeR W6.heap.size (.slice oc5 lc5 kc5) [.int .i64 g5,.int .i64 n5,.slice ov5 lv5 cv5,.slice ot5 lt5 ct5] [.slice oc6 lc6 kc6,.int .i64 g6,.int .i64 n6,.slice ov6 lv6 cv6,.slice ot6 lt6 ct6] K (Trm.shift (rk K) q1.1) 7 (a.tmps.getD 62 undef) w1:=hdep.at 7 62 (by kernel_rfl)
         exact wp_build2F (v:=.agg #[.slice oc5 lc5 kc5,.int .i64 o3,.int .i64 n3,.slice ov3 lv3 cv3,.slice ot3 lt3 ct3]) rfl h58 h62 (by go_simp) ⟨_,rfl,⟨_,_,_,_,rfl,hr3.unhide⟩,hph,fun j u _ _ h=>h⟩
        | 9,_=>
         cases ho
         have h9:a.tmps.getD 9 undef=.pointer (some ⟨b,0,none⟩):=hrest.at 9 (by kernel_rfl)
         have c0:=hb6.cell 0 rfl
         have c1:=hb6.cell 1 rfl
         have c2:=hb6.cell 2 rfl
         have c3:=hb6.cell 3 rfl
         have c4:=hb6.cell 4 rfl
         have cl:=hb6.lt
         exact wp_valF (v:=.agg #[.slice oc6 lc6 kc6,.int .i64 g6,.int .i64 n6,.slice ov6 lv6 cv6,.slice ot6 lt6 ct6]) (w':=w1) (by go_simp) ⟨_,rfl,rfl,hph,fun j u _ _ h=>h⟩
        | 10,_=>
         cases ho
         have h64:a.tmps.getD 64 undef=.agg #[.slice oc6 lc6 kc6,.int .i64 g6,.int .i64 n6,.slice ov6 lv6 cv6,.slice ot6 lt6 ct6]:=hdep.at 9 64 (by kernel_rfl)
         obtain ⟨c0,c1,c2,c3,h63,hr3⟩:SeR W6.heap.size (.slice oc5 lc5 kc5) [.int .i64 g5,.int .i64 n5,.slice ov5 lv5 cv5,.slice ot5 lt5 ct5] [.slice oc6 lc6 kc6,.int .i64 g6,.int .i64 n6,.slice ov6 lv6 cv6,.slice ot6 lt6 ct6] K (Trm.shift (rk K) q1.1) 8 (a.tmps.getD 63 undef) w1:=hdep.at 8 63 (by kernel_rfl)
         refine wp_callF (vals:=#[.agg #[.slice oc5 lc5 kc5,c0,c1,c2,c3],.agg #[.slice oc6 lc6 kc6,.int .i64 g6,.int .i64 n6,.slice ov6 lv6 cv6,.slice ot6 lt6 ct6]]) rfl (by simp only[List.map_toArray,List.map_cons,List.map_nil];rw[←h63,←h64];rfl) (fun _ _=>rfl) (same07_self q1.2 (Trm.shift (rk K) q1.1) _ _ _ _ _ _ _ _ _ _ w1 (HR5.out w1 hph) hr3 (HR6.out w1 hph) (HT6.out w1 hph) true (all2_selfU _)) ?_
         rintro e w' ⟨rfl,h2⟩
         exact ⟨_,rfl,_,rfl,rfl,hph.trans (h2.mono hph.size),fun j u _ _ h=>seR_below h h2⟩
        | 11,_=>
         cases ho
         have h56:a.tmps.getD 56 undef=.bool true:=hdep.at 1 56 (by kernel_rfl)
         have h65:a.tmps.getD 65 undef=.bool true:=hdep.at 10 65 (by kernel_rfl)
         exact wp_valF (v:=.bool true) (w':=w1) (by go_simp) ⟨_,rfl,rfl,hph,fun j u _ _ h=>h⟩
        | 12,_=>
         cases ho
         have h66:a.tmps.getD 66 undef=.bool true:=hdep.at 11 66 (by kernel_rfl)
         exact wp_valF (v:=.bool true) (w':=w1) (by go_simp) ⟨_,rfl,rfl,hph,fun j u _ _ h=>h⟩
        | i+13,hi=>exact absurd hi (by simp)
       case hend=>
        intro listed a w1 hdf hsz hls hph hval hrest
        have h4:a.tmps.getD 4 undef=.bool true:=hval 12 _ 4 rfl rfl
        obtain ⟨f9,ha,hf⟩:=act_spellF [false,false,false,false,true,false,false,false,false,false,false,false,false,false,false,false,false,false,false,false,false,false,false,false,false,false,false,false,false,false,false,false,false,false,false,false,false,false,false,false,false,false,false,false,false,false,false,false,false,false,false,false,false,false,false,true,true,true,true,true,true,true,true,true,true,true,true] (by kernel_rfl) hdf hsz hrest
        rw[←hf] at h4
        subst ha
        have HB1:=Lib.hid (HBW.out.trans (hph.mono HBW.out.size))
        clear hval hrest hf hdf hsz hls hph
        simp only[spellF,h4]
        go_wp2_with fail
        go_ret
        exact ⟨rfl,HB1.out⟩
end
end Go.Proofs.YtgbibibmpoekiaaGreatDoor
