/-
  What the proofs lean on: FwL.
-/
import Derived.Test.YtgbibibmpoekiaaGreatDoorShfA14
import Derived.Test.YtgbibibmpoekiaaGreatDoorShfA30
set_option maxRecDepth 100000
set_option maxHeartbeats 16000000
namespace Go.Proofs.YtgbibibmpoekiaaGreatDoor
section
open Go Go.RowKit
structure ByL (w W:World) (S:Nat→Prop) (mb nn:Nat) (f:Int→Option Value) (b:List (Int × Trm)):Prop where
 map:MapVT W mb nn f
 small:nn≤100000
 none:∀k,b.lookup k=Option.none→f k=Option.none
 some:∀k y,b.lookup k=Option.some y→∃v,f k=Option.some v∧TmV S y v w
theorem ByL.by {w W:World} {S S':Nat→Prop} {mb nn:Nat} {f:Int→Option Value} {b:List (Int × Trm)} (h:ByL w W S mb nn f b) (hb:Below w.heap.size w W) (hS:∀b,S' b→S b∨w.heap.size≤b):ByR W S' mb nn f b:=
 ⟨h.map,h.small,h.none,fun k y hk=>let ⟨v,h1,h2⟩:=h.some k y hk;⟨v,h1,h2.shown (shown_more hb hS) hb.size⟩⟩
theorem ByL.same {w W W':World} {S:Nat→Prop} {mb nn:Nat} {f:Int→Option Value} {b:List (Int × Trm)} (h:ByL w W S mb nn f b) (hb:W'.heap[mb]?=W.heap[mb]?):ByL w W' S mb nn f b:=⟨h.map.same hb,h.small,h.none,h.some⟩
theorem ByL.put {w W W':World} {S:Nat→Prop} {mb nn:Nat} {f:Int→Option Value} {b:List (Int × Trm)} {k:Int} {y:Trm} {v:Value} (h:ByL w W S mb nn f b) (hm:MapVT W' mb (nn+1) (fun x=>if x=k then Option.some v else f x)) (hv:TmV S y v w) (hn:nn+1≤100000):ByL w W' S mb (nn+1) (fun x=>if x=k then Option.some v else f x) ((k,y)::b):=by
 refine ⟨hm,hn,fun x hx=>?_,fun x z hx=>?_⟩
 ·rw[List.lookup_cons] at hx
  by_cases e:x=k
  ·subst e;simp at hx
  ·have e2:(x==k)=false:=by simpa using e
   rw[e2] at hx
   show (if x=k then Option.some v else f x)=Option.none
   rw[if_neg e];exact h.none x hx
 ·rw[List.lookup_cons] at hx
  by_cases e:x=k
  ·subst e
   simp only[beq_self_eq_true] at hx
   cases hx
   exact ⟨v,if_pos rfl,hv⟩
  ·have e2:(x==k)=false:=by simpa using e
   rw[e2] at hx
   obtain ⟨u,h1,h2⟩:=h.some x z hx
   exact ⟨u,by rw[if_neg e];exact h1,h2⟩
theorem ownF_block {W W':World} {base n size:Nat} {e:TypeId} {v:Value} {xs:List Value} (h:W.ownsRow base e size v n xs) (hb:∀g,v.ownBlock=some g→g<W.heap.size→W'.heap[g]?=W.heap[g]?):W'.ownsRow base e size v n xs:=by
 refine ⟨h.1,?_⟩
 rcases h.2 with h' | ⟨g,cap,cur,rfl,h2,h3,h4⟩
 ·exact .inl h'
 ·exact .inr ⟨g,cap,cur,rfl,h2,(hb g rfl (Array.getElem?_eq_some_iff.1 h3).1).trans h3,h4⟩
theorem ownF_keep {W W':World} {base n size:Nat} {e:TypeId} {v:Value} {xs:List Value} (h:W.ownsRow base e size v n xs) (hb:Below W.heap.size W W'):W'.ownsRow base e size v n xs:=ownF_block h fun g _ hl=>hb.block g hl
structure LtI (w:World) (S:Nat→Prop) (last:List Value) (vV vT:Value) (nn:Nat) (f:Int→Option Value) (b:List (Int × Trm)) (V:List Int) (T:List Trm) (wr:World):Prop where
 rb:BoxL wr w.heap.size 26 [.int .i64 0,.int .i64 0,.slice none 0 0,.slice none 0 0]
 lb:BoxL wr (w.heap.size+1) 26 last
 mp:ByL w wr S (w.heap.size+1+1) nn f b.reverse
 ob:BoxL wr (w.heap.size+1+1+1) 26 [.int .i64 8,.int .i64 0,vV,vT]
 vrow:wr.ownsRow (w.heap.size+4) 3 1 vV V.length (V.map (Value.int .i64))
 ints:∀x∈V,I64 x
 trow:∃xs,wr.ownsRow (w.heap.size+4) 26 4 vT T.length xs∧CellsG 4 (TrmR (hide w S) w.heap.size) T xs
 below:Below w.heap.size w wr
 size:w.heap.size+4≤wr.heap.size
theorem LtI.keep {w wr W:World} {S:Nat→Prop} {last:List Value} {vV vT:Value} {nn:Nat} {f:Int→Option Value} {b:List (Int × Trm)} {V:List Int} {T:List Trm} (h:LtI w S last vV vT nn f b V T wr) (hb:Below wr.heap.size wr W):LtI w S last vV vT nn f b V T W:=
 ⟨h.rb.keep hb,h.lb.keep hb,h.mp.same (hb.block _ h.mp.map.lt),h.ob.keep hb,ownF_keep h.vrow hb,h.ints,let ⟨xs,h1,h2⟩:=h.trow;⟨xs,ownF_keep h1 hb,h2⟩,h.below.trans (hb.mono h.below.size),Nat.le_trans h.size hb.size⟩
theorem keepC' {W W':World} (hb:Below W.heap.size W W') {b o:Nat} {v:Value} (h:W.cell? ⟨b,o,none⟩=some v):W'.cell? ⟨b,o,none⟩=some v:=(hb.cell (p:=⟨b,o,none⟩) (cell_lt h)).trans h
theorem LtI.mapped {w wr W:World} {S:Nat→Prop} {last:List Value} {vV vT:Value} {nn nn':Nat} {f f':Int→Option Value} {b b':List (Int × Trm)} {V:List Int} {T:List Trm} (h:LtI w S last vV vT nn f b V T wr) (hg:wr.grownBy W (some (w.heap.size+1+1))) (hm:ByL w W S (w.heap.size+1+1) nn' f' b'.reverse):LtI w S last vV vT nn' f' b' V T W:=by
 have ht:Turned (fun b=>b=w.heap.size+1+1) wr W:=Turned.grown hg fun b e=>by cases e;rfl
 refine ⟨ht.box h.rb (by omega),ht.box h.lb (by omega),hm,ht.box h.ob (by omega),ownF_block h.vrow fun g hg _=>ht.block g (by assumption) fun e=>?_,h.ints,?_,h.below.trans (ht.below (fun b hb=>by subst hb;omega) h.below.size),Nat.le_trans h.size ht.size⟩
 ·have:=own_from h.vrow g hg;omega
 ·obtain ⟨xs,h1,h2⟩:=h.trow
  exact ⟨xs,ownF_block h1 fun g hg hl=>ht.block g hl fun e=>by have:=own_from h1 g hg;omega,h2⟩
theorem ownF_type {W:World} {base n size g:Nat} {e:TypeId} {v:Value} {xs:List Value} (h:W.ownsRow base e size v n xs) (hg:v.ownBlock=some g):∃cs f,W.heap[g]?=some (.cells cs e f):=by
 rcases h.2 with ⟨rfl,_⟩ | ⟨g',cap,cur,rfl,_,h3,_⟩
 ·cases hg
 ·simp only[Value.ownBlock,Option.some.injEq] at hg
  subst hg
  exact ⟨_,_,h3⟩
theorem ownF_lt {W:World} {base n size g:Nat} {e:TypeId} {v:Value} {xs:List Value} (h:W.ownsRow base e size v n xs) (hg:v.ownBlock=some g):g<W.heap.size:=by
 obtain ⟨cs,f,h1⟩:=ownF_type h hg
 exact (Array.getElem?_eq_some_iff.1 h1).1
theorem rowsF_ne {W:World} {base base' n m:Nat} {v u:Value} {xs ys:List Value} (h:W.ownsRow base 3 1 v n xs) (k:W.ownsRow base' 26 4 u m ys) (g:Nat) (hv:v.ownBlock=some g) (hu:u.ownBlock=some g):False:=by
 obtain ⟨c,f,h1⟩:=ownF_type h hv
 obtain ⟨c',f',h2⟩:=ownF_type k hu
 rw[h1] at h2
 simp at h2
theorem box_cellsF {W:World} {b:Nat} {t:TypeId} {cs:List Value} (h:BoxL W b t cs):∀j u,cs[j]?=some u→W.cell? ((⟨b,0,none⟩:Addr).add j)=some u:=fun j u hj=>by
 rw[add_none rfl]
 simpa using h.cell j hj
theorem run_bsI (w:World) (x:Int):(Instr.buildSlice 23 1 #[(0,.int .i64 x)]).run Tryz.prog w=.ok (.slice (some ⟨w.heap.size,0,none⟩) 1 1) (w.alloc (.cells #[.int .i64 x] 3)):=by go_simp
section
variable {o : Oper} {a : Act} {w : World} {Q : Exit → Act → World → Prop}
theorem wp_bsR {K:Act→World→Prop} {s:Nat} {t:TypeId} {x v:Value} {w':World} (ho:o.op=.buildSlice t 1 #[(0,.tmp s)]) (hx:a.tmps.getD s undef=x) (hr:(Instr.buildSlice t 1 #[(0,x)]).run Tryz.prog w=.ok v w') (hK:K (a.put o.dst v) w'):o.wp Tryz.prog a w K Q:=by
 refine wp_valF (v:=v) (w':=w') ?_ hK
 have hmap:(#[(0,Operand.tmp s)]:Array (Nat × Operand)).map (fun (i,x)=>(i,a.eval x))=#[(0,x)]:=by
  simp only[List.map_toArray,List.map_cons,List.map_nil]
  rw[←hx];rfl
 unfold execOp
 rw[ho]
 show (do let r ←Instr.buildSlice t 1 ((#[(0,Operand.tmp s)]:Array (Nat × Operand)).map (fun (i,x)=>(i,a.eval x)));pure (Next.value r):Sem Next).run Tryz.prog w=_
 rw[hmap]
 simp only[Sem.run_bind,Sem.run_pure,hr,Result.andThen_ok]
end
def LtPh (vV vT:Value) (base:Nat) (V:List Int) (xs:List Value) (nT:Nat) (W0:World) (listed:Array Bool) (W:World):Prop:=
 Turned (fun b=>vV.ownBlock=some b∨vT.ownBlock=some b) W0 W∧(listed.getD 4 false=false→W.ownsRow base 3 1 vV V.length (V.map (Value.int .i64)))∧(listed.getD 9 false=false→W.ownsRow base 26 4 vT nT xs)
def LtR (ob:Nat) (vV vT:Value) (vx:Int) (xcs:List Value) (xv:Value) (base z:Nat) (V:List Int) (xs:List Value) (nT:Nat) (i:Nat) (v:Value) (W:World):Prop:=match i with
 | 0=>v=.pointer (some ⟨ob,2,none⟩)
 | 1=>v=vV
 | 2=>v=.int .i64 vx
 | 3=>∃b,v=.slice (some ⟨b,0,none⟩) 1 1∧z≤b∧BoxL W b 3 [.int .i64 vx]
 | 4=>∃g c,v=.slice (some ⟨g,0,none⟩) (V.length+1) c∧W.ownsRow base 3 1 (.slice (some ⟨g,0,none⟩) (V.length+1) c) (V.length+1) (V.map (Value.int .i64)++[.int .i64 vx])
 | 5=>v=.pointer (some ⟨ob,3,none⟩)
 | 6=>v=vT
 | 7=>v=xv
 | 8=>∃b,v=.slice (some ⟨b,0,none⟩) 1 1∧z≤b∧BoxL W b 26 xcs
 | 9=>∃g c,v=.slice (some ⟨g,0,none⟩) (nT+1) c∧W.ownsRow base 26 4 (.slice (some ⟨g,0,none⟩) (nT+1) c) (nT+1) (xs++xcs)
 | 10=>v=.pointer (some ⟨ob,2,none⟩)
 | _=>True
section
variable {vV vT : Value} {base z ob nT : Nat} {V : List Int} {xs xcs : List Value} {W0 w1 w' : World} {listed : Array Bool} {vx : Int} {xv : Value}
theorem LtPh.step (h:LtPh vV vT base V xs nT W0 listed w1) (i:Nat) (h4:i≠4) (h9:i≠9) (hb:Below w1.heap.size w1 w'):LtPh vV vT base V xs nT W0 (listed.setIfInBounds i true) w':=
 ⟨h.1.next (.of_below hb),fun e=>ownF_keep (h.2.1 (by rwa[getD_set_ne false h4] at e)) hb,fun e=>ownF_keep (h.2.2 (by rwa[getD_set_ne false h9] at e)) hb⟩
theorem LtPh.stepV (h:LtPh vV vT base V xs nT W0 listed w1) (hl:4<listed.size) (ht:Turned (fun b=>vV.ownBlock=some b) w1 w') (hv:w1.ownsRow base 3 1 vV V.length (V.map (Value.int .i64))):LtPh vV vT base V xs nT W0 (listed.setIfInBounds 4 true) w':=
 ⟨h.1.next (ht.wider fun _ _ h=>.inl h),fun e=>by simp[hl] at e,fun e=>by
  have h2:=h.2.2 (by rwa[getD_set_ne false (by decide)] at e)
  exact ownF_block h2 fun g hg hlt=>ht.block g hlt fun e=>rowsF_ne hv h2 g e hg⟩
theorem LtPh.stepT (h:LtPh vV vT base V xs nT W0 listed w1) (hl:9<listed.size) (ht:Turned (fun b=>vT.ownBlock=some b) w1 w') (hv:w1.ownsRow base 26 4 vT nT xs):LtPh vV vT base V xs nT W0 (listed.setIfInBounds 9 true) w':=
 ⟨h.1.next (ht.wider fun _ _ h=>.inr h),fun e=>by
  have h2:=h.2.1 (by rwa[getD_set_ne false (by decide)] at e)
  exact ownF_block h2 fun g hg hlt=>ht.block g hlt fun e=>rowsF_ne h2 hv g hg e,fun e=>by simp[hl] at e⟩
theorem ltR_below (hb:Below w1.heap.size w1 w'):∀k u,LtR ob vV vT vx xcs xv base z V xs nT k u w1→LtR ob vV vT vx xcs xv base z V xs nT k u w':=fun k u h=>by
 match k with
 | 0 | 1 | 2 | 5 | 6 | 7 | 10=>exact h
 | 3=>exact let ⟨b,h1,h2,h3⟩:=h;⟨b,h1,h2,h3.keep hb⟩
 | 8=>exact let ⟨b,h1,h2,h3⟩:=h;⟨b,h1,h2,h3.keep hb⟩
 | 4=>exact let ⟨g,c,h1,h2⟩:=h;⟨g,c,h1,ownF_keep h2 hb⟩
 | 9=>exact let ⟨g,c,h1,h2⟩:=h;⟨g,c,h1,ownF_keep h2 hb⟩
 | k+11=>trivial
theorem ltR_V (hz:∀b,vV.ownBlock=some b→b<z) (hv:w1.ownsRow base 3 1 vV V.length (V.map (Value.int .i64))) (ht:Turned (fun b=>vV.ownBlock=some b) w1 w'):∀k u,k≠4→LtR ob vV vT vx xcs xv base z V xs nT k u w1→LtR ob vV vT vx xcs xv base z V xs nT k u w':=fun k u hk h=>by
 match k,hk with
 | 0,_ | 1,_ | 2,_ | 5,_ | 6,_ | 7,_ | 10,_=>exact h
 | 3,_=>exact let ⟨b,h1,h2,h3⟩:=h;⟨b,h1,h2,ht.box h3 fun e=>by have:=hz b e;omega⟩
 | 8,_=>exact let ⟨b,h1,h2,h3⟩:=h;⟨b,h1,h2,ht.box h3 fun e=>by have:=hz b e;omega⟩
 | 4,hk=>exact absurd rfl hk
 | 9,_=>exact let ⟨g,c,h1,h2⟩:=h;⟨g,c,h1,ownF_block h2 fun g hg hlt=>ht.block g hlt fun e=>rowsF_ne hv h2 g e hg⟩
 | k+11,_=>trivial
theorem ltR_T (hz:∀b,vT.ownBlock=some b→b<z) (hv:w1.ownsRow base 26 4 vT nT xs) (ht:Turned (fun b=>vT.ownBlock=some b) w1 w'):∀k u,k≠9→LtR ob vV vT vx xcs xv base z V xs nT k u w1→LtR ob vV vT vx xcs xv base z V xs nT k u w':=fun k u hk h=>by
 match k,hk with
 | 0,_ | 1,_ | 2,_ | 5,_ | 6,_ | 7,_ | 10,_=>exact h
 | 3,_=>exact let ⟨b,h1,h2,h3⟩:=h;⟨b,h1,h2,ht.box h3 fun e=>by have:=hz b e;omega⟩
 | 8,_=>exact let ⟨b,h1,h2,h3⟩:=h;⟨b,h1,h2,ht.box h3 fun e=>by have:=hz b e;omega⟩
 | 9,hk=>exact absurd rfl hk
 | 4,_=>exact let ⟨g,c,h1,h2⟩:=h;⟨g,c,h1,ownF_block h2 fun g hg hlt=>ht.block g hlt fun e=>rowsF_ne h2 hv g hg e⟩
 | k+11,_=>trivial
end
theorem flet_any (S:Nat→Prop) (vars:List Int) (l:List Trm) (vv sl:Value) (w:World) (hvv:SlC (hide w S) w.heap.size 1 IntR vars vv) (hv:TrmS (hide w S) w.heap.size l sl) (hS:∀b,S b→b<w.heap.size) (hlen:l.length=vars.length+1) (hall:Trm.allL l≤1000) (hbn:(Trm.bndL l).length≤2000000) :
  Calls Tryz.prog 40 #[vv,sl] w (TmPost S (Fd.letT vars l) w):=by
 obtain ⟨oq,lv,cq,rfl⟩:=hvv.form
 obtain ⟨ot,lt,ct,rfl⟩:=SlC.form hv
 have hlv:=hvv.lens.1
 have hlt:=(SlC.lens hv).1
 have hlv1:lt=lv+1:=by omega
 have hlv2:lv≤1000:=by have:=Trm.allL_length l;omega
 obtain ⟨last,hlast⟩:∃last,l[vars.length]?=some last:=⟨_,List.getElem?_eq_getElem (by omega)⟩
 have HEQ:=Lib.hid (Fd.letT_eq hlast)
 rw[←hlv] at hlast
 obtain ⟨eb,eo,es,he,_,hcl,hcell,hir⟩:=SlC.at hv (Below.refl _ _) hlast
 subst he
 obtain ⟨aov,alv,acv,aot,alt,act,rfl,_,_,_,_⟩:=trmR_form hir
 have e0:=(hide_some (hcell 0 _ rfl)).2
 have e1:=(hide_some (hcell 1 _ rfl)).2
 have e2:=(hide_some (hcell 2 _ rfl)).2
 have e3:=(hide_some (hcell 3 _ rfl)).2
 simp only[Nat.add_zero] at e0
 have el:=cell_lt e0
 have HV:=Lib.hid hvv
 have HT:=Lib.hid hv
 have HS:=Lib.hid hS
 have HLV:=Lib.hid hlv
 have HLT:=Lib.hid hlt
 have HLAST:=Lib.hid hlast
 have HLR:=Lib.hid hir
 have HALL:=Lib.hid hall
 have HBN:=Lib.hid hbn
 have hmm:=@run_makeMap Tryz.prog
 have hi2:(lv:Int)<lt:=by omega
 have hi3:lv<lt:=by omega
 have HLV1:=Lib.hid hlv1
 obtain ⟨W4,hW4⟩:∃W4,(((w.alloc (.cells #[.int .i64 0,.int .i64 0,.slice none 0 0,.slice none 0 0] 26)).alloc (.cells #[.int .i64 last.op,.int .i64 last.n,.slice aov alv acv,.slice aot alt act] 26)).alloc (.map #[] 0)).alloc (.cells #[.int .i64 8,.int .i64 0,.slice none 0 0,.slice none 0 0] 26)=W4:=⟨_,rfl⟩
 have hb4:Below w.heap.size w W4:=by rw[←hW4];exact ((((Below.refl _ _).alloc (Nat.le_refl _) _).alloc (by simp) _).alloc (by simp;omega) _).alloc (by simp;omega) _
 have hs4:W4.heap.size=w.heap.size+4:=by rw[←hW4];simp
 have HI4:=Lib.hid (show LtI w S [.int .i64 last.op,.int .i64 last.n,.slice aov alv acv,.slice aot alt act] (.slice none 0 0) (.slice none 0 0) 0 (fun _=>none) [] [] [] W4 from by
  rw[←hW4]
  refine ⟨(((BoxL.new rfl _ _).alloc _).alloc _).alloc _,(((BoxL.new (by simp) _ _).alloc _).alloc _),⟨?_,by omega,fun _ _=>rfl,fun k y h=>by simp at h⟩,BoxL.new (by simp) _ _,World.ownsRow_nil _ _ _ _,fun _ h=>by simp at h,⟨[],World.ownsRow_nil _ _ _ _,rfl⟩,by rw[hW4];exact hb4,by rw[hW4,hs4];exact Nat.le_refl _⟩
  have h:=MapVT.new ((w.alloc (.cells #[.int .i64 0,.int .i64 0,.slice none 0 0,.slice none 0 0] 26)).alloc (.cells #[.int .i64 last.op,.int .i64 last.n,.slice aov alv acv,.slice aot alt act] 26))
  rw[show ((w.alloc (.cells #[.int .i64 0,.int .i64 0,.slice none 0 0,.slice none 0 0] 26)).alloc (.cells #[.int .i64 last.op,.int .i64 last.n,.slice aov alv acv,.slice aot alt act] 26)).heap.size=w.heap.size+1+1 by simp] at h
  exact h.keep (Below.one _ _))
 have HW4:=Lib.hid hW4
 clear hvv hv hS hlast hir hcell hcl hall hbn hW4 hb4 hs4 hlen hlt hlv hlv1
 go_enter Tryz.func40,Tryz.ntmps40
 go_upto_region 4 with fail
 rw[HW4.out]
 clear e0 e1 e2 e3 el hi2
 go_wp2_with fail
 go_loopg [20] lv (fun g i wr=>∃(j:Nat) (vV vT:Value) (nn:Nat) (f:Int→Option Value),g=lv-j∧j≤lv∧i=.int .i64 j∧nn≤j∧Hid (LtI w S [.int .i64 last.op,.int .i64 last.n,.slice aov alv acv,.slice aot alt act] vV vT nn f (Fd.lets last (vars.take j) (l.take j)).1 (Fd.lets last (vars.take j) (l.take j)).2.1 (Fd.lets last (vars.take j) (l.take j)).2.2 wr))
 case atStart=>exact ⟨0,_,_,0,_,rfl,by omega,rfl,by omega,by simpa[Fd.lets] using HI4⟩
 case round=>
  obtain ⟨j,vV,vT,nn,f,rfl,hj,rfl,hnn,HI⟩:=hrel
  by_cases hjl:j<lv
  ·obtain ⟨vx,hvx⟩:∃vx,vars[j]?=some vx:=⟨_,List.getElem?_eq_getElem (by rw[←HLV.out];exact hjl)⟩
   obtain ⟨x,hx⟩:∃x,l[j]?=some x:=⟨_,List.getElem?_eq_getElem (by rw[←HLT.out];omega)⟩
   have HST:=Lib.hid (Fd.lets_take last hvx hx)
   obtain ⟨vb,vo,vs,hvo,_,hvl,hvc,hvi⟩:=SlC.at HV.out (Below.refl _ _) hvx
   obtain ⟨rfl,hvi⟩:=hvi
   obtain ⟨xb,xo,xs,hxo,_,hxl,hxc,hxr⟩:=SlC.at HT.out (Below.refl _ _) hx
   simp only[Option.some.injEq,Addr.mk.injEq,and_true] at hxo
   obtain ⟨rfl,rfl⟩:=hxo
   subst hvo
   obtain ⟨xov,xlv,xcv,xot,xlt,xct,rfl,_,_,_,_⟩:=trmR_form hxr
   have hbw:=HI.out.below
   have e0:=keepC' hbw (hide_some (hxc 0 _ rfl)).2
   have e1:=keepC' hbw (hide_some (hxc 1 _ rfl)).2
   have e2:=keepC' hbw (hide_some (hxc 2 _ rfl)).2
   have e3:=keepC' hbw (hide_some (hxc 3 _ rfl)).2
   have v0:=keepC' hbw (hide_some (hvc 0 _ rfl)).2
   simp only[Nat.add_zero,Nat.mul_one] at e0 v0
   have el:=cell_lt e0
   have vl:=cell_lt v0
   have HXR:=Lib.hid hxr
   have HXI:=Lib.hid (show I64 vx from hvi)
   have HXM:=Lib.hid (List.mem_of_getElem? hx)
   clear hvx hx hvc hxc hxr hvl hxl hvi hbw
   have hji:(j:Int)<lt:=by omega
   have hjt:j<lt:=by omega
   have HVW:=Lib.hid (fun g (hg:vV.ownBlock=some g)=>ownF_lt HI.out.vrow hg)
   have HTW:=Lib.hid (fun g (hg:vT.ownBlock=some g)=>show g<wr.heap.size from by obtain ⟨_,h1,_⟩:=HI.out.trow;exact ownF_lt h1 hg)
   go_upto_region 8 with fail
   obtain ⟨W5,hW5⟩:∃W5,wr.alloc (.cells #[.int .i64 x.op,.int .i64 x.n,.slice xov xlv xcv,.slice xot xlt xct] 26)=W5:=⟨_,rfl⟩
   have hb5:Below wr.heap.size wr W5:=by rw[←hW5];exact Below.one _ _
   have HE5:=Lib.hid (show BoxL W5 wr.heap.size 26 [.int .i64 x.op,.int .i64 x.n,.slice xov xlv xcv,.slice xot xlt xct] from by rw[←hW5];exact BoxL.new rfl _ _)
   have HI5:=Lib.hid (HI.out.keep hb5)
   rw[hW5]
   have hs5:w.heap.size+4≤wr.heap.size:=HI.out.size
   clear hb5 hW5 e0 e1 e2 e3 v0 el vl HI
   have g0:=HE5.out.cell 0 rfl
   have g1:=HE5.out.cell 1 rfl
   have g2:=HE5.out.cell 2 rfl
   have g3:=HE5.out.cell 3 rfl
   have gl:=HE5.out.lt
   have HC:=Lib.hid (fun W=>show Calls Tryz.prog 74 #[.agg #[.int .i64 x.op,.int .i64 x.n,.slice xov xlv xcv,.slice xot xlt xct]] W (fun e w'=>e=.returned (.bool (Fd.light x))∧Below W.heap.size W w') from flight_any _ _ _ _ _ _ _ _ W)
   obtain ⟨q,hq⟩:∃q,Fd.light x=q:=⟨_,rfl⟩
   rw[hq] at HC
   have HQ:=Lib.hid hq
   clear hq
   go_wp2_with fail
   refine (HC.out _).mono ?_
   rintro e W6 ⟨rfl,hb6⟩
   have HE6:=Lib.hid (HE5.out.keep hb6)
   have HI6:=Lib.hid (HI5.out.keep hb6)
   clear hb6 g0 g1 g2 g3 gl HE5 HI5 HC
   have g0:=HE6.out.cell 0 rfl
   have g1:=HE6.out.cell 1 rfl
   have g2:=HE6.out.cell 2 rfl
   have g3:=HE6.out.cell 3 rfl
   have gl:=HE6.out.lt
   have HXV:=Lib.hid (show TmV S x (.agg #[.int .i64 x.op,.int .i64 x.n,.slice xov xlv xcv,.slice xot xlt xct]) w from ⟨_,_,_,_,_,_,_,_,rfl,HXR.out⟩)
   cases q with
   | true=>
    go_wp2_with (at_mapUpdate;refine wpList_putVT rfl (.tmp 32) (.tmp 33) (.tmp 34) rfl (w.heap.size+1+1) nn f rfl HI6.out.mp.map (by omega) vx (.agg #[.int .i64 x.op,.int .i64 x.n,.slice xov xlv xcv,.slice xot xlt xct]) rfl rfl HXI.out ?_)
    intro W7 hm7 hg7
    have HI7:=Lib.hid (show LtI w S [.int .i64 last.op,.int .i64 last.n,.slice aov alv acv,.slice aot alt act] vV vT (nn+1) (fun x'=>if x'=vx then some (.agg #[.int .i64 x.op,.int .i64 x.n,.slice xov xlv xcv,.slice xot xlt xct]) else f x') (Fd.lets last (vars.take (j+1)) (l.take (j+1))).1 (Fd.lets last (vars.take (j+1)) (l.take (j+1))).2.1 (Fd.lets last (vars.take (j+1)) (l.take (j+1))).2.2 W7 from by
     rw[HST.out,Fd.letStep,if_pos HQ.out]
     exact HI6.out.mapped hg7 (by rw[List.reverse_append];exact HI6.out.mp.put hm7 HXV.out (by omega)))
    clear hm7 hg7 g0 g1 g2 g3 gl
    go_wp2_with fail
    go_roundg (lv-(j+1))
    case measure=>omega
    case rel=>exact ⟨j+1,_,_,_,_,rfl,by omega,by go_num,by omega,HI7⟩
   | false=>
    have HCI:=Lib.hid (fun W=>show Calls Tryz.prog 73 #[.agg #[.int .i64 x.op,.int .i64 x.n,.slice xov xlv xcv,.slice xot xlt xct]] W (fun e w'=>e=.returned (.bool (Fd.idle x))∧Below W.heap.size W w') from fidle_any _ _ _ _ _ _ _ _ W)
    obtain ⟨q2,hq2⟩:∃q2,Fd.idle x=q2:=⟨_,rfl⟩
    rw[hq2] at HCI
    have HQ2:=Lib.hid hq2
    obtain ⟨q3,hq3⟩:∃q3,(!Fd.idle x || Fd.named vx last)=q3:=⟨_,rfl⟩
    have HQ3:=Lib.hid hq3
    clear hq2 hq3
    go_upto_region 10 with fail
    go_cut [35] (fun c wx=>c=.bool q3∧Below W6.heap.size W6 wx)
    case first=>as_aux_lemma=>
     go_wp2_with fail
     refine (HCI.out _).mono ?_
     rintro e W7 ⟨rfl,hb7⟩
     have HI7:=Lib.hid (HI6.out.keep hb7)
     have HB7:=Lib.hid hb7
     clear hb7 g0 g1 g2 g3 gl
     cases q2 with
     | false=>
      obtain rfl:true=q3:=by rw[←HQ3.out,HQ2.out];rfl
      go_wp2_with fail
      go_meet
      exact ⟨rfl,HB7.out⟩
     | true=>
      have l0:=HI7.out.lb.cell 0 rfl
      have l1:=HI7.out.lb.cell 1 rfl
      have l2:=HI7.out.lb.cell 2 rfl
      have l3:=HI7.out.lb.cell 3 rfl
      have ll:=HI7.out.lb.lt
      have HLM:=Lib.hid (List.mem_of_getElem? HLAST.out)
      have HCN:=Lib.hid (fnamed_any last _ _ _ _ vx W7.heap.size W7 (TrmR.unhide (HLR.out.shown (shown_more HI7.out.below fun b h=>.inl h) HI7.out.below.size)) (Nat.le_refl _) (by have:=Trm.allL_mem HLM.out;have:=HALL.out;omega) (by have:=bndL_le HLM.out;have:=HBN.out;omega))
      rw[show Fd.named vx last=q3 by rw[←HQ3.out,HQ2.out];rfl] at HCN
      go_wp2_with fail
      refine HCN.out.mono ?_
      rintro e W8 ⟨rfl,hb8⟩
      have HB8:=Lib.hid (HB7.out.trans (hb8.mono HB7.out.size))
      clear hb8 l0 l1 l2 l3 ll
      go_wp2_with fail
      go_meet
      exact ⟨rfl,HB8.out⟩
    case rest=>
     obtain ⟨rfl,hbx⟩:=hcut
     have HB9:=Lib.hid hbx
     have HI9:=Lib.hid (HI6.out.keep hbx)
     have HE9:=Lib.hid (HE6.out.keep hbx)
     clear hbx g0 g1 g2 g3 gl HI6 HE6 HXV
     cases q3 with
     | false=>
      have HI10:=Lib.hid (show LtI w S [.int .i64 last.op,.int .i64 last.n,.slice aov alv acv,.slice aot alt act] vV vT nn f (Fd.lets last (vars.take (j+1)) (l.take (j+1))).1 (Fd.lets last (vars.take (j+1)) (l.take (j+1))).2.1 (Fd.lets last (vars.take (j+1)) (l.take (j+1))).2.2 wc from by
       rw[HST.out,Fd.letStep,if_neg (by rw[HQ.out];simp),if_neg (by rw[HQ3.out];simp)]
       exact HI9.out)
      go_wp2_with fail
      go_roundg (lv-(j+1))
      case measure=>omega
      case rel=>exact ⟨j+1,_,_,_,_,rfl,by omega,by go_num,by omega,HI10⟩
     | true=>
      have HST2:=Lib.hid (show Fd.lets last (vars.take (j+1)) (l.take (j+1))=((Fd.lets last (vars.take j) (l.take j)).1,(Fd.lets last (vars.take j) (l.take j)).2.1++[vx],(Fd.lets last (vars.take j) (l.take j)).2.2++[x]) from by
       rw[HST.out,Fd.letStep,if_neg (by rw[HQ.out];simp),if_pos HQ3.out])
      obtain ⟨bb,V,T,hbvt⟩:∃bb V T,Fd.lets last (vars.take j) (l.take j)=(bb,V,T):=⟨_,_,_,rfl⟩
      have hvl:=(Fd.lets_len last (vars.take j) (l.take j))
      rw[hbvt] at HI9 HST2 hvl
      obtain ⟨hvt,hvj⟩:=hvl
      simp only at hvt hvj HI9 HST2
      have hvj2:V.length≤1000:=by rw[List.length_take] at hvj;omega
      clear hvj
      obtain ⟨xs,htr,htc⟩:=HI9.out.trow
      have HTR:=Lib.hid htr
      have HTC:=Lib.hid htc
      have HVT:=Lib.hid hvt
      obtain ⟨oV,cV,rfl⟩:=own_form HI9.out.vrow
      obtain ⟨oT,cT,rfl⟩:=own_form htr
      have HVF:=Lib.hid (fun g (hg:(Value.slice oV V.length cV).ownBlock=some g)=>ownF_lt HI9.out.vrow hg)
      have HTF:=Lib.hid (fun g (hg:(Value.slice oT T.length cT).ownBlock=some g)=>ownF_lt htr hg)
      clear htr htc hvt hbvt
      go_upto_region 11 with fail
      have HD9:=Lib.hid ((Below.refl wc.heap.size wc).drew)
      refine wp_region_stF 11 (LtPh (.slice oV V.length cV) (.slice oT T.length cT) (w.heap.size+4) V xs T.length wc.drew) (LtR (w.heap.size+1+1+1) (.slice oV V.length cV) (.slice oT T.length cT) vx [.int .i64 x.op,.int .i64 x.n,.slice xov xlv xcv,.slice xot xlt xct] (.agg #[.int .i64 x.op,.int .i64 x.n,.slice xov xlv xcv,.slice xot xlt xct]) (w.heap.size+4) wc.heap.size V xs T.length) (by kernel_rfl) (by kernel_rfl) ⟨.refl _ _,fun _=>ownF_keep HI9.out.vrow HD9.out,fun _=>ownF_keep HTR.out HD9.out⟩ ?hops ?hend
      case hops=>
       intro i o9 hi ho listed a w1 hli _ hph hun hdep hrest
       have ht:Turned (fun b=>(Value.slice oV V.length cV).ownBlock=some b∨(Value.slice oT T.length cT).ownBlock=some b) wc w1:=(Turned.of_below HD9.out).next hph.1
       have hob:=ht.box HI9.out.ob (fun e=>by
        rcases e with e | e
        ·have:=own_from HI9.out.vrow _ e;omega
        ·have:=own_from HTR.out _ e;omega)
       match i,hi with
       | 0,_=>
        cases ho
        have h7:a.tmps.getD 7 undef=.pointer (some ⟨w.heap.size+1+1+1,0,none⟩):=hrest.at 7 (by kernel_rfl)
        exact wp_valF (v:=.pointer (some ⟨w.heap.size+1+1+1,2,none⟩)) (w':=w1) (by go_simp) ⟨_,rfl,rfl,hph.step 0 (by decide) (by decide) (Below.refl _ _),fun k u _ _ h=>h⟩
       | 1,_=>
        cases ho
        have h44:a.tmps.getD 44 undef=.pointer (some ⟨w.heap.size+1+1+1,2,none⟩):=hdep.at 0 44 (by kernel_rfl)
        have c2:=hob.cell 2 rfl
        have cl:=hob.lt
        exact wp_valF (v:=.slice oV V.length cV) (w':=w1) (by go_simp) ⟨_,rfl,rfl,hph.step 1 (by decide) (by decide) (Below.refl _ _),fun k u _ _ h=>h⟩
       | 2,_=>
        cases ho
        exact wp_moveF rfl ⟨_,rfl,hrest.at 9 (by kernel_rfl),hph.step 2 (by decide) (by decide) (Below.refl _ _),fun k u _ _ h=>h⟩
       | 3,_=>
        cases ho
        have h46:a.tmps.getD 46 undef=.int .i64 vx:=hdep.at 2 46 (by kernel_rfl)
        have hb:=Below.one w1 (.cells #[.int .i64 vx] 3)
        exact wp_bsR (v:=.slice (some ⟨w1.heap.size,0,none⟩) 1 1) (w':=w1.alloc (.cells #[.int .i64 vx] 3)) rfl h46 (run_bsI _ _) ⟨_,rfl,⟨_,rfl,ht.size,BoxL.new rfl _ _⟩,hph.step 3 (by decide) (by decide) hb,fun k u _ _ h=>ltR_below hb k u h⟩
       | 4,_=>
        cases ho
        have h45:a.tmps.getD 45 undef=.slice oV V.length cV:=hdep.at 1 45 (by kernel_rfl)
        obtain ⟨b9,h47,hz9,hb9⟩:∃b,a.tmps.getD 47 undef=.slice (some ⟨b,0,none⟩) 1 1∧wc.heap.size≤b∧BoxL w1 b 3 [.int .i64 vx]:=hdep.at 3 47 (by kernel_rfl)
        obtain ⟨i0,hi0,hz0,hz1,hz2⟩:=info_parts info_int
        refine wp_append_lies w1 (.tmp 45) (.tmp 47) 23 rfl (w.heap.size+4) 3 i0 (.int .i64 0) 1 8 Tryz.underlying23 hi0 hz0 hz1 hz2 rfl (by decide) (.slice oV V.length cV) V.length (V.map (Value.int .i64)) h45 (hph.2.1 hun) ⟨b9,0,none⟩ 1 1 [.int .i64 vx] h47 rfl (box_cellsF hb9) (by intro u hu;simp only[List.mem_cons,List.not_mem_nil,or_false] at hu;subst hu;rfl) (by decide) (by unfold maxLen;omega) (by omega) (by have:=HI9.out.size;have:=ht.size;omega) w1.heap.size rfl ?_
        intro g cap w7 m1 m2 m3 _
        have hT7:Turned (fun b=>(Value.slice oV V.length cV).ownBlock=some b) w1 w7:=Turned.grown m2 fun _ h=>h
        exact ⟨_,rfl,⟨g,cap,rfl,m1⟩,hph.stepV hli hT7 (hph.2.1 hun),fun k u hk _ h=>ltR_V (fun b hb=>HVF.out _ hb) (hph.2.1 hun) hT7 k u hk h⟩
       | 5,_=>
        cases ho
        have h7:a.tmps.getD 7 undef=.pointer (some ⟨w.heap.size+1+1+1,0,none⟩):=hrest.at 7 (by kernel_rfl)
        exact wp_valF (v:=.pointer (some ⟨w.heap.size+1+1+1,3,none⟩)) (w':=w1) (by go_simp) ⟨_,rfl,rfl,hph.step 5 (by decide) (by decide) (Below.refl _ _),fun k u _ _ h=>h⟩
       | 6,_=>
        cases ho
        have h49:a.tmps.getD 49 undef=.pointer (some ⟨w.heap.size+1+1+1,3,none⟩):=hdep.at 5 49 (by kernel_rfl)
        have c3:=hob.cell 3 rfl
        have cl:=hob.lt
        exact wp_valF (v:=.slice oT T.length cT) (w':=w1) (by go_simp) ⟨_,rfl,rfl,hph.step 6 (by decide) (by decide) (Below.refl _ _),fun k u _ _ h=>h⟩
       | 7,_=>
        cases ho
        have h10:a.tmps.getD 10 undef=.pointer (some ⟨wr.heap.size,0,none⟩):=hrest.at 10 (by kernel_rfl)
        have hbx:BoxL w1 wr.heap.size 26 [.int .i64 x.op,.int .i64 x.n,.slice xov xlv xcv,.slice xot xlt xct]:=ht.box HE9.out (fun e=>by
         rcases e with e | e
         ·have:=HVW.out _ e;omega
         ·have:=HTW.out _ e;omega)
        have c0:=hbx.cell 0 rfl
        have c1:=hbx.cell 1 rfl
        have c2:=hbx.cell 2 rfl
        have c3:=hbx.cell 3 rfl
        have cl:=hbx.lt
        exact wp_valF (v:=.agg #[.int .i64 x.op,.int .i64 x.n,.slice xov xlv xcv,.slice xot xlt xct]) (w':=w1) (by go_simp) ⟨_,rfl,rfl,hph.step 7 (by decide) (by decide) (Below.refl _ _),fun k u _ _ h=>h⟩
       | 8,_=>
        cases ho
        have h51:a.tmps.getD 51 undef=.agg #[.int .i64 x.op,.int .i64 x.n,.slice xov xlv xcv,.slice xot xlt xct]:=hdep.at 7 51 (by kernel_rfl)
        have hb:=Below.one w1 (.cells #[.int .i64 x.op,.int .i64 x.n,.slice xov xlv xcv,.slice xot xlt xct] 26)
        exact wp_bsR (v:=.slice (some ⟨w1.heap.size,0,none⟩) 1 1) (w':=w1.alloc (.cells #[.int .i64 x.op,.int .i64 x.n,.slice xov xlv xcv,.slice xot xlt xct] 26)) rfl h51 (run_bsT _ _ _ _ _ _ _ _ _) ⟨_,rfl,⟨_,rfl,ht.size,BoxL.new rfl _ _⟩,hph.step 8 (by decide) (by decide) hb,fun k u _ _ h=>ltR_below hb k u h⟩
       | 9,_=>
        cases ho
        have h50:a.tmps.getD 50 undef=.slice oT T.length cT:=hdep.at 6 50 (by kernel_rfl)
        obtain ⟨b9,h52,hz9,hb9⟩:∃b,a.tmps.getD 52 undef=.slice (some ⟨b,0,none⟩) 1 1∧wc.heap.size≤b∧BoxL w1 b 26 [.int .i64 x.op,.int .i64 x.n,.slice xov xlv xcv,.slice xot xlt xct]:=hdep.at 8 52 (by kernel_rfl)
        obtain ⟨i0,hi0,hz0,hz1,hz2⟩:=info_parts info_termS
        refine wp_append_lies w1 (.tmp 50) (.tmp 52) 24 rfl (w.heap.size+4) 26 i0 (.agg #[.int .i64 0,.int .i64 0,.slice none 0 0,.slice none 0 0]) 4 64 Tryz.underlying24 hi0 hz0 hz1 hz2 rfl (by decide) (.slice oT T.length cT) T.length xs h50 (hph.2.2 hun) ⟨b9,0,none⟩ 1 1 [.int .i64 x.op,.int .i64 x.n,.slice xov xlv xcv,.slice xot xlt xct] h52 rfl (box_cellsF hb9) (by intro u hu;simp only[List.mem_cons,List.not_mem_nil,or_false] at hu;rcases hu with rfl | rfl | rfl | rfl<;>rfl) (by decide) (by unfold maxLen;have:=HVT.out;omega) (by have:=HVT.out;omega) (by have:=HI9.out.size;have:=ht.size;omega) w1.heap.size rfl ?_
        intro g cap w7 m1 m2 m3 _
        have hT7:Turned (fun b=>(Value.slice oT T.length cT).ownBlock=some b) w1 w7:=Turned.grown m2 fun _ h=>h
        exact ⟨_,rfl,⟨g,cap,rfl,m1⟩,hph.stepT hli hT7 (hph.2.2 hun),fun k u hk _ h=>ltR_T (fun b hb=>HTF.out _ hb) (hph.2.2 hun) hT7 k u hk h⟩
       | 10,_=>
        cases ho
        have h7:a.tmps.getD 7 undef=.pointer (some ⟨w.heap.size+1+1+1,0,none⟩):=hrest.at 7 (by kernel_rfl)
        exact wp_valF (v:=.pointer (some ⟨w.heap.size+1+1+1,2,none⟩)) (w':=w1) (by go_simp) ⟨_,rfl,rfl,hph.step 10 (by decide) (by decide) (Below.refl _ _),fun k u _ _ h=>h⟩
       | i+11,hi=>exact absurd hi (by omega)
      case hend=>
       intro listed a w1 hdf hsz hall hph hval hrest
       obtain ⟨gV,kV,h48,hrV⟩:∃g c,a.tmps.getD 48 undef=.slice (some ⟨g,0,none⟩) (V.length+1) c∧_:=hval 4 _ 48 (by omega) rfl rfl
       obtain ⟨gT,kT,h53,hrT⟩:∃g c,a.tmps.getD 53 undef=.slice (some ⟨g,0,none⟩) (T.length+1) c∧_:=hval 9 _ 53 (by omega) rfl rfl
       have h54:a.tmps.getD 54 undef=.pointer (some ⟨w.heap.size+1+1+1,2,none⟩):=hval 10 _ 54 (by omega) rfl rfl
       obtain ⟨f9,ha,hf⟩:=act_spellF [false,false,false,false,false,false,false,false,false,false,false,false,false,false,false,false,false,false,false,false,false,false,false,false,false,false,false,false,false,false,false,false,false,false,false,false,false,false,false,false,false,false,false,false,true,true,true,true,true,true,true,true,true,true,true,false,false,false,false,false,false,false,false,false,false,false,false,false,false,false,false,false] (by kernel_rfl) hdf hsz hrest
       rw[←hf] at h48 h53 h54
       subst ha
       have ht:Turned (fun b=>(Value.slice oV V.length cV).ownBlock=some b∨(Value.slice oT T.length cT).ownBlock=some b) wc w1:=(Turned.of_below HD9.out).next hph.1
       have HNB:=Lib.hid (fun b (hb:b<w.heap.size+4)=>show ¬((Value.slice oV V.length cV).ownBlock=some b∨(Value.slice oT T.length cT).ownBlock=some b) from fun e=>by
        rcases e with e | e
        ·have:=own_from HI9.out.vrow _ e;omega
        ·have:=own_from HTR.out _ e;omega)
       have hob:=ht.box HI9.out.ob (HNB.out _ (by omega))
       have c2:=hob.cell 2 rfl
       have c3:=hob.cell 3 rfl
       have z2:=hob.free 2
       have z3:=hob.free 3
       have cl:=hob.lt
       have hbl:Below w.heap.size w w1:=HI9.out.below.trans (ht.below (fun b hb=>by
        rcases Nat.lt_or_ge b (w.heap.size+4) with h | h
        ·exact absurd hb (HNB.out b h)
        ·omega) HI9.out.below.size)
       obtain ⟨W10,hW10⟩:∃W10,(w1.setCell ⟨w.heap.size+1+1+1,2,none⟩ (.slice (some ⟨gV,0,none⟩) (V.length+1) kV)).setCell ⟨w.heap.size+1+1+1,3,none⟩ (.slice (some ⟨gT,0,none⟩) (T.length+1) kT)=W10:=⟨_,rfl⟩
       have hgV:=own_from hrV gV rfl
       have hgT:=own_from hrT gT rfl
       have HI10:=Lib.hid (show LtI w S [.int .i64 last.op,.int .i64 last.n,.slice aov alv acv,.slice aot alt act] (.slice (some ⟨gV,0,none⟩) (V.length+1) kV) (.slice (some ⟨gT,0,none⟩) (T.length+1) kT) nn f (Fd.lets last (vars.take (j+1)) (l.take (j+1))).1 (Fd.lets last (vars.take (j+1)) (l.take (j+1))).2.1 (Fd.lets last (vars.take (j+1)) (l.take (j+1))).2.2 W10 from by
        rw[HST2.out,←hW10]
        refine ⟨((ht.box HI9.out.rb (HNB.out _ (by omega))).other _ _ (by show w.heap.size≠w.heap.size+1+1+1;omega)).other _ _ (by show w.heap.size≠w.heap.size+1+1+1;omega),((ht.box HI9.out.lb (HNB.out _ (by omega))).other _ _ (by show w.heap.size+1≠w.heap.size+1+1+1;omega)).other _ _ (by show w.heap.size+1≠w.heap.size+1+1+1;omega),?_,(hob.set 2 _).set 3 _,?_,?_,⟨xs++[.int .i64 x.op,.int .i64 x.n,.slice xov xlv xcv,.slice xot xlt xct],?_,?_⟩,?_,?_⟩
        ·exact HI9.out.mp.same (by rw[setCell_heap_other _ _ _ (by show w.heap.size+1+1≠w.heap.size+1+1+1;omega),setCell_heap_other _ _ _ (by show w.heap.size+1+1≠w.heap.size+1+1+1;omega)];exact ht.block _ HI9.out.mp.map.lt (HNB.out _ (by omega)))
        ·rw[List.length_append,List.map_append]
         exact ownF_block hrV fun g hg _=>by
          rw[setCell_heap_other _ _ _ (by simp only[Value.ownBlock,Option.some.injEq] at hg;subst hg;show gV≠w.heap.size+1+1+1;omega),setCell_heap_other _ _ _ (by simp only[Value.ownBlock,Option.some.injEq] at hg;subst hg;show gV≠w.heap.size+1+1+1;omega)]
        ·intro u hu
         rcases List.mem_append.1 hu with hu | hu
         ·exact HI9.out.ints u hu
         ·rw[List.mem_singleton.1 hu];exact HXI.out
        ·rw[List.length_append]
         exact ownF_block hrT fun g hg _=>by
          rw[setCell_heap_other _ _ _ (by simp only[Value.ownBlock,Option.some.injEq] at hg;subst hg;show gT≠w.heap.size+1+1+1;omega),setCell_heap_other _ _ _ (by simp only[Value.ownBlock,Option.some.injEq] at hg;subst hg;show gT≠w.heap.size+1+1+1;omega)]
        ·exact CellsG.snoc rfl HXR.out HTC.out
        ·exact (hbl.setCell (p:=⟨w.heap.size+1+1+1,2,none⟩) (by dsimp only;omega) _).setCell (p:=⟨w.heap.size+1+1+1,3,none⟩) (by dsimp only;omega) _
        ·simp only[World.size_setCell];exact Nat.le_trans HI9.out.size ht.size)
       clear hval hrest hf hdf hsz hrV hrT hob hbl ht hph
       simp only[spellF,h48,h53,h54,List.drop_succ_cons,List.drop_zero]
       go_wp2_with fail
       go_roundg (lv-(j+1))
       case measure=>omega
       case rel=>exact ⟨j+1,_,_,_,_,rfl,by omega,by go_num,by omega,HI10⟩
  ·obtain rfl:lv=j:=by omega
   have hvt:vars.take lv=vars:=List.take_of_length_le (by rw[←HLV.out];exact Nat.le_refl _)
   have hlc:Fd.lets last vars (l.take lv)=Fd.lets last vars l:=by rw[HLV.out];exact Fd.lets_cut last vars l
   rw[hvt,hlc] at HI
   clear hvt hlc
   obtain ⟨bb,V,T,hbvt⟩:∃bb V T,Fd.lets last vars l=(bb,V,T):=⟨_,_,_,rfl⟩
   have hvl:=Fd.lets_len last vars l
   rw[hbvt] at HI HEQ hvl
   obtain ⟨hvt,hvj⟩:=hvl
   simp only at hvt hvj HI HEQ
   have HVT:=Lib.hid hvt
   have HVJ:=Lib.hid (show V.length≤1000 by rw[←HLV.out] at hvj;omega)
   obtain ⟨xs,htr,htc⟩:=HI.out.trow
   have HTR:=Lib.hid htr
   have HTC:=Lib.hid htc
   obtain ⟨oV,cV,rfl⟩:=own_form HI.out.vrow
   obtain ⟨oT,cT,rfl⟩:=own_form htr
   clear htr htc hvt hvj hbvt
   have hS5:∀b,SR (SR (S4 S w.heap.size) (.slice oV V.length cV)) (.slice oT T.length cT) b→S b∨w.heap.size≤b:=fun b hb=>by
    rcases hb with ((hb | hb) | hb) | hb
    ·exact .inl hb
    ·exact .inr hb.1
    ·have:=own_from HI.out.vrow _ hb;exact .inr (by omega)
    ·have:=own_from HTR.out _ hb;exact .inr (by omega)
   have hS5l:∀b,SR (SR (S4 S w.heap.size) (.slice oV V.length cV)) (.slice oT T.length cT) b→b<wr.heap.size:=fun b hb=>by
    have hz:=HI.out.size
    rcases hb with ((hb | hb) | hb) | hb
    ·have:=HS.out b hb;omega
    ·have:=hb.2;omega
    ·exact ownF_lt HI.out.vrow hb
    ·exact ownF_lt HTR.out hb
   have HLM:=Lib.hid (List.mem_of_getElem? HLAST.out)
   have HCR:=Lib.hid (freplaced_any (b:=bb.reverse) last (SR (SR (S4 S w.heap.size) (.slice oV V.length cV)) (.slice oT T.length cT)) _ _ _ _ wr (HLR.out.shown (shown_more HI.out.below hS5) HI.out.below.size) hS5l (HI.out.mp.by HI.out.below hS5) (by have:=Trm.allL_mem HLM.out;have:=HALL.out;omega))
   have l0:=HI.out.lb.cell 0 rfl
   have l1:=HI.out.lb.cell 1 rfl
   have l2:=HI.out.lb.cell 2 rfl
   have l3:=HI.out.lb.cell 3 rfl
   have ll:=HI.out.lb.lt
   go_wp2_with fail
   refine HCR.out.mono ?_
   rintro e W7 ⟨yo,yn,yov,yot,ylv,ycv,ylt,yct,rfl,hyr,hb7⟩
   have HI7:=Lib.hid (HI.out.keep hb7)
   have HT7:=Lib.hid (ownF_keep HTR.out hb7)
   obtain ⟨W8,hW8⟩:∃W8,(((W7.setCell ⟨w.heap.size+1,0,none⟩ (.int .i64 yo)).setCell ⟨w.heap.size+1,1,none⟩ (.int .i64 yn)).setCell ⟨w.heap.size+1,2,none⟩ (.slice yov ylv ycv)).setCell ⟨w.heap.size+1,3,none⟩ (.slice yot ylt yct)=W8:=⟨_,rfl⟩
   have ht8:Turned (fun b=>b=w.heap.size+1) W7 W8:=by rw[←hW8];exact set4_turned (S:=fun b=>b=w.heap.size+1) W7 rfl _ _ _ _
   have hz8:W8.heap.size=W7.heap.size:=by rw[←hW8];exact set4_size W7 _ _ _ _ _
   have HY8:=Lib.hid (show TrmR (hide W8 (SR (SR (S4 S w.heap.size) (.slice oV V.length cV)) (.slice oT T.length cT))) W8.heap.size (Fd.put bb.reverse last) [.int .i64 yo,.int .i64 yn,.slice yov ylv ycv,.slice yot ylt yct] from hyr.shown (Shown.turned ht8 fun b _ hb=>by subst hb;exact .inl (.inl (.inr ⟨by omega,by omega⟩))) (by rw[hz8];exact Nat.le_refl _))
   have HL8:=Lib.hid (show BoxL W8 (w.heap.size+1) 26 [.int .i64 yo,.int .i64 yn,.slice yov ylv ycv,.slice yot ylt yct] from by rw[←hW8];exact set4_box HI7.out.lb _ _ _ _)
   have HR8:=Lib.hid (ht8.box HI7.out.rb (by omega))
   have HO8:=Lib.hid (ht8.box HI7.out.ob (by omega))
   have HV8:=Lib.hid (ownF_block HI7.out.vrow fun g hg hl=>ht8.block g hl fun e=>by have:=own_from HI7.out.vrow g hg;omega)
   have HTW8:=Lib.hid (ownF_block HT7.out fun g hg hl=>ht8.block g hl fun e=>by have:=own_from HT7.out g hg;omega)
   have HB8:=Lib.hid (HI7.out.below.trans (ht8.below (fun b hb=>by subst hb;omega) HI7.out.below.size))
   have HZ8:=Lib.hid (show w.heap.size+4≤W8.heap.size by rw[hz8];exact HI7.out.size)
   have HINTS:=Lib.hid HI7.out.ints
   have m0:=HI7.out.lb.cell 0 rfl
   have m1:=HI7.out.lb.cell 1 rfl
   have m2:=HI7.out.lb.cell 2 rfl
   have m3:=HI7.out.lb.cell 3 rfl
   have n0:=HI7.out.lb.free 0
   have n1:=HI7.out.lb.free 1
   have n2:=HI7.out.lb.free 2
   have n3:=HI7.out.lb.free 3
   have ml:=HI7.out.lb.lt
   clear hyr hb7 ht8 hz8 l0 l1 l2 l3 ll HI HTR HCR
   go_upto_region 14 with fail
   clear m0 m1 m2 m3 n0 n1 n2 n3 ml HI7 HT7
   have o0:=HO8.out.cell 0 rfl
   have o1:=HO8.out.cell 1 rfl
   have o2:=HO8.out.cell 2 rfl
   have o3:=HO8.out.cell 3 rfl
   have ol:=HO8.out.lt
   have r0:=HR8.out.cell 0 rfl
   have r1:=HR8.out.cell 1 rfl
   have r2:=HR8.out.cell 2 rfl
   have r3:=HR8.out.cell 3 rfl
   have k0:=HR8.out.free 0
   have k1:=HR8.out.free 1
   have k2:=HR8.out.free 2
   have k3:=HR8.out.free 3
   have rl:=HR8.out.lt
   have g0:=HL8.out.cell 0 rfl
   have g1:=HL8.out.cell 1 rfl
   have g2:=HL8.out.cell 2 rfl
   have g3:=HL8.out.cell 3 rfl
   have gl:=HL8.out.lt
   by_cases hV:V=[]
   ·have d1:((V.length:Int)==0)=true:=by rw[hV];rfl
    have HRT:=Lib.hid (show Fd.letT vars l=Fd.put bb.reverse last by rw[HEQ.out,if_pos hV])
    clear hV
    have HBF:=Lib.hid (set4_box HR8.out (.int .i64 yo) (.int .i64 yn) (.slice yov ylv ycv) (.slice yot ylt yct))
    have q0:=HBF.out.cell 0 rfl
    have q1:=HBF.out.cell 1 rfl
    have q2:=HBF.out.cell 2 rfl
    have q3:=HBF.out.cell 3 rfl
    have HBB:=Lib.hid (set4_below W8 (b:=w.heap.size) (n:=w.heap.size) (Nat.le_refl _) (.int .i64 yo) (.int .i64 yn) (.slice yov ylv ycv) (.slice yot ylt yct))
    go_wp2_with fail
    refine bodyPost_ret (v:=.agg #[.int .i64 yo,.int .i64 yn,.slice yov ylv ycv,.slice yot ylt yct]) (by simp[results,Tryz.f40,go_sem,q0,q1,q2,q3]) rfl ?_
    refine ⟨_,_,_,_,_,_,_,_,rfl,?_,HB8.out.trans HBB.out⟩
    rw[HRT.out]
    exact HY8.out.shown (Shown.trans (Shown.turned (set4_turned W8 (S:=fun b=>b=w.heap.size) rfl (.int .i64 yo) (.int .i64 yn) (.slice yov ylv ycv) (.slice yot ylt yct)) fun b _ hb=>by subst hb;exact .inl (.inl (.inr ⟨by omega,by omega⟩))) (Shown.less _ fun b _ h=>.inl (.inl (.inl h)))) (by rw[set4_size];exact Nat.le_refl _)
   ·have d1:((V.length:Int)==0)=false:=by
     have:0<V.length:=List.length_pos_iff.2 hV
     simp;exact hV
    have HRT:=Lib.hid (show Fd.letT vars l=.mk 8 0 V (T++[Fd.put bb.reverse last]) by rw[HEQ.out,if_neg hV])
    clear hV
    have HG8:=Lib.hid (show GrownT 26 W8 (SR (S4 S w.heap.size) (.slice oV V.length cV)) (w.heap.size+4) T (.slice oT T.length cT) from by
     refine ⟨fun b hb=>?_,fun g hg hs=>?_,HZ8.out,xs,HTW8.out,HTC.out.mono fun _ _ _ h=>h.shown (shown_more HB8.out fun b hb=>?_) HB8.out.size⟩
     ·rcases hb with (hb | hb) | hb
      ·have:=HS.out b hb;have:=HZ8.out;omega
      ·have:=hb.2;have:=HZ8.out;omega
      ·exact ownF_lt HV8.out hb
     ·rcases hs with (hs | hs) | hs
      ·have:=own_from HTW8.out g hg;have:=HS.out g hs;omega
      ·have:=own_from HTW8.out g hg;have:=hs.2;omega
      ·exact rowsF_ne HV8.out HTW8.out g hs hg
     ·rcases hb with ((hb | hb) | hb) | hb
      ·exact .inl hb
      ·exact .inr hb.1
      ·have:=own_from HV8.out _ hb;exact .inr (by omega)
      ·have:=own_from HTW8.out _ hb;exact .inr (by omega))
    have hS8:∀b,SR (SR (S4 S w.heap.size) (.slice oV V.length cV)) (.slice oT T.length cT) b→b<W8.heap.size:=svT_lt HG8.out (Nat.le_refl _)
    have HONE:=Lib.hid (trmS_one HY8.out hS8)
    have hb9:=Below.one W8 (.cells #[.int .i64 yo,.int .i64 yn,.slice yov ylv ycv,.slice yot ylt yct] 26)
    have HG9:=Lib.hid (HG8.out.below hb9)
    have HV9:=Lib.hid (ownF_keep HV8.out hb9)
    have HR9:=Lib.hid (HR8.out.keep hb9)
    have HO9:=Lib.hid (HO8.out.keep hb9)
    have HB9:=Lib.hid (HB8.out.trans (hb9.mono HB8.out.size))
    clear hb9 HTW8 HV8 HG8
    go_wp2_with (at_builtin;refine wpList_growTF rfl (.tmp 66) (.tmp 68) rfl (w.heap.size+4) _ _ T [Fd.put bb.reverse last] rfl HG9.out rfl HONE.out (by have:=HVT.out;have:=HVJ.out;simp;omega) ?_)
    intro o9 l9 c9 W10 h1 h2 h3
    have HTN:=Lib.hid (fun b (hb:b<w.heap.size+4)=>show ¬(Value.slice oT T.length cT).ownBlock=some b from fun e=>by have:=(HG9.out.block e).1;omega)
    have hob:=h3.out.box HO9.out (HTN.out _ (by omega))
    have hrb:=h3.out.box HR9.out (HTN.out _ (by omega))
    have c3:=hob.cell 3 rfl
    have z3:=hob.free 3
    have cl:=hob.lt
    obtain ⟨W11,hW11⟩:∃W11,W10.setCell ⟨w.heap.size+1+1+1,3,none⟩ (.slice o9 l9 c9)=W11:=⟨_,rfl⟩
    have ht11:Turned (fun b=>b=w.heap.size+1+1+1) W10 W11:=by rw[←hW11];exact Turned.set (S:=fun b=>b=w.heap.size+1+1+1) W10 ⟨w.heap.size+1+1+1,3,none⟩ _ rfl
    have HO11:=Lib.hid (show BoxL W11 (w.heap.size+1+1+1) 26 [.int .i64 8,.int .i64 0,.slice oV V.length cV,.slice o9 l9 c9] from by rw[←hW11];exact hob.set 3 _)
    have HR11:=Lib.hid (ht11.box hrb (by omega))
    have HG11:=Lib.hid (h1.out.turned ht11 fun b _ hb=>by subst hb;exact .inl (.inr ⟨by omega,by omega⟩))
    have HV11:=Lib.hid (ownF_block (ownF_block HV9.out fun g hg hl=>h3.out.block g hl fun e=>by
      obtain ⟨_,_,_,ys,k1,_⟩:=HG9.out
      exact rowsF_ne HV9.out k1 g hg e) fun g hg hl=>ht11.block g hl fun e=>by have:=own_from HV9.out g hg;omega)
    have HB11:=Lib.hid (HB9.out.trans ((h2.out.mono (by omega)).trans (ht11.below (b0:=w.heap.size) (fun b hb=>by subst hb;omega) (by have:=h2.out.size;have:=HB9.out.size;omega))))
    clear h1 h2 h3 hob hrb ht11 HG9 HV9 HR9 HO9 HB9 HONE o0 o1 o2 o3 ol r0 r1 r2 r3 k0 k1 k2 k3 rl g0 g1 g2 g3 gl
    go_upto_region 17 with fail
    clear hW11 c3 z3 cl
    have o0:=HO11.out.cell 0 rfl
    have o1:=HO11.out.cell 1 rfl
    have o2:=HO11.out.cell 2 rfl
    have o3:=HO11.out.cell 3 rfl
    have ol:=HO11.out.lt
    have r0:=HR11.out.cell 0 rfl
    have r1:=HR11.out.cell 1 rfl
    have r2:=HR11.out.cell 2 rfl
    have r3:=HR11.out.cell 3 rfl
    have k0:=HR11.out.free 0
    have k1:=HR11.out.free 1
    have k2:=HR11.out.free 2
    have k3:=HR11.out.free 3
    have rl:=HR11.out.lt
    have HBF:=Lib.hid (set4_box HR11.out (.int .i64 8) (.int .i64 0) (.slice oV V.length cV) (.slice o9 l9 c9))
    have q0:=HBF.out.cell 0 rfl
    have q1:=HBF.out.cell 1 rfl
    have q2:=HBF.out.cell 2 rfl
    have q3:=HBF.out.cell 3 rfl
    have HBB:=Lib.hid (set4_below W11 (b:=w.heap.size) (n:=w.heap.size) (Nat.le_refl _) (.int .i64 8) (.int .i64 0) (.slice oV V.length cV) (.slice o9 l9 c9))
    go_wp2_with fail
    refine bodyPost_ret (v:=.agg #[.int .i64 8,.int .i64 0,.slice oV V.length cV,.slice o9 l9 c9]) (by simp[results,Tryz.f40,go_sem,q0,q1,q2,q3]) rfl ?_
    refine ⟨_,_,_,_,_,_,_,_,rfl,?_,HB11.out.trans HBB.out⟩
    rw[HRT.out]
    have ht12:=set4_turned W11 (S:=fun b=>b=w.heap.size) (b:=w.heap.size) rfl (.int .i64 8) (.int .i64 0) (.slice oV V.length cV) (.slice o9 l9 c9)
    refine trmR_iff.2 ⟨_,_,rfl,by omega,by omega,?_,?_⟩
    ·have h:=rowInts (row_hide (S:=S) (ownF_block HV11.out fun g hg hl=>ht12.block g hl fun e=>by have:=own_from HV11.out g hg;omega) fun g hg hs=>by
      have:=own_from HV11.out g hg
      have:=HS.out g hs
      omega) HINTS.out
     rwa[hide_size] at h
    ·exact TrmS.shown HG11.out.rep (Shown.trans (Shown.turned ht12 fun b _ hb=>by subst hb;exact .inl (.inr ⟨by omega,by omega⟩)) (Shown.less _ fun b _ h=>.inl (.inl h))) (by rw[set4_size];exact Nat.le_refl _)
end
end Go.Proofs.YtgbibibmpoekiaaGreatDoor
