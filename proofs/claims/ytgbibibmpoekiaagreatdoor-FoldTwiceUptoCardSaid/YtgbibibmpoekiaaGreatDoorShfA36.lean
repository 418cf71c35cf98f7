/-
  What the proofs lean on: FwV.
-/
import Derived.WalkSpells
import Derived.Test.YtgbibibmpoekiaaGreatDoorShfA11
import Derived.Test.YtgbibibmpoekiaaGreatDoorShfA26
import Derived.Test.YtgbibibmpoekiaaGreatDoorShfA35
set_option maxRecDepth 100000
set_option maxHeartbeats 16000000
namespace Go.Proofs.YtgbibibmpoekiaaGreatDoor
section
open Go Go.RowKit
theorem Shown.move {T S S':Nat→Prop} {W W':World} (ht:Turned T W W') (hT:∀b,b<W.heap.size→T b→S b) (hS:∀b,S' b→S b∨W.heap.size≤b):Shown W S W' S':=fun c o u hc hu=>by
 have hlt:=cell_lt hu
 refine ⟨fun hs=>?_,(Shown.turned (S:=S) ht hT c o u hc hu).2⟩
 rcases hS c hs with h | h
 ·exact hc h
 ·omega
theorem GrownS.move {T S S':Nat→Prop} {W W':World} {base:Nat} {l:List Dat} {v:Value} (h:GrownS W S base l v) (ht:Turned T W W') (hT:∀b,b<W.heap.size→T b→S b) (hS:∀b,S' b→S b∨W.heap.size≤b) (hl:∀b,S' b→b<W'.heap.size):GrownS W' S' base l v:=
 h.rehide ht.size hl (fun g hg hs=>(hS g hs).elim (h.apart g hg) fun h2=>by have:=(h.block hg).2;omega) (fun g hg=>ht.block g (h.block hg).2 fun t=>h.apart g hg (hT g (h.block hg).2 t))
  (Shown.move ht (fun b hb t=>.inl (hT b hb t)) fun b hb=>hb.elim (fun hb=>(hS b hb).imp .inl id) fun hb=>.inl (.inr hb))
theorem GrownT.move {e:TypeId} {T S S':Nat→Prop} {W W':World} {base:Nat} {l:List Trm} {v:Value} (h:GrownT e W S base l v) (ht:Turned T W W') (hT:∀b,b<W.heap.size→T b→S b) (hS:∀b,S' b→S b∨W.heap.size≤b) (hl:∀b,S' b→b<W'.heap.size):GrownT e W' S' base l v:=by
 obtain ⟨h0,hap,h00,xs,h1,h2⟩:=h
 refine ⟨hl,fun g hg hs=>(hS g hs).elim (hap g hg) fun h2=>by have:=(h1.lt g hg).2;omega,Nat.le_trans h00 ht.size,xs,⟨h1.1,?_⟩,h2.mono fun _ _ _ hx=>hx.shown (Shown.move ht (fun b hb t=>.inl (hT b hb t)) fun b hb=>hb.elim (fun hb=>(hS b hb).imp .inl id) fun hb=>.inl (.inr hb)) ht.size⟩
 rcases h1.2 with h' | ⟨g,cap,cur,rfl,k2,k3,k4⟩
 ·exact .inl h'
 ·exact .inr ⟨g,cap,cur,rfl,k2,(ht.block g (h1.lt g rfl).2 fun t=>hap g rfl (hT g (h1.lt g rfl).2 t)).trans k3,k4⟩
theorem FoS.move {T S S':Nat→Prop} {W W':World} {fb base:Nat} {sl:Value} {cs:List Dat} (h:FoS W S fb base sl cs) (ht:Turned T W W') (hT:∀b,b<W.heap.size→T b→S b) (hf:¬T fb) (hS:∀b,S' b→S b∨W.heap.size≤b) (hl:∀b,S' b→b<W'.heap.size):FoS W' S' fb base sl cs:=
 ⟨ht.box h.box hf,h.row.move ht (fun b hb t=>.inl (hT b hb t)) (fun b hb=>hb.elim (fun hb=>(hS b hb).imp .inl id) fun hb=>.inl (.inr hb)) fun b hb=>hb.elim (hl b) fun e=>by rw[e];exact Nat.lt_of_lt_of_le h.box.lt ht.size⟩
theorem FoE.move {b0:Nat} {T S S':Nat→Prop} {W W':World} {fb base:Nat} {sl:Value} {cs:List Dat} (h:FoE b0 W S fb base sl cs) (ht:Turned T W W') (h0:∀b,T b→b0≤b) (hT:∀b,b<W.heap.size→T b→S b) (hf:¬T fb) (hS:∀b,S' b→S b∨W.heap.size≤b) (hl:∀b,S' b→b<W'.heap.size):FoE b0 W' S' fb base sl cs:=
 ⟨h.fo.move ht hT hf hS hl,h.env.kept (ht.below h0 (Nat.le_trans h.lf (Nat.le_of_lt h.fo.box.lt))),h.lf,h.lb,h.good,h.few⟩
theorem FoE.less {b0:Nat} {S S':Nat→Prop} {W:World} {fb base:Nat} {sl:Value} {cs:List Dat} (h:FoE b0 W S fb base sl cs) (hS:∀b,S' b→S b):FoE b0 W S' fb base sl cs:=
 ⟨⟨h.fo.box,h.fo.row.less (fun b h=>h.elim (fun h=>.inl (hS b h)) .inr) (Nat.le_refl _)⟩,h.env,h.lf,h.lb,h.good,h.few⟩
theorem grown_own {e:TypeId} {S S':Nat→Prop} {W W':World} {base:Nat} {l:List Trm} {y:Trm} {v v':Value} (h:GrownT e W' S' base (l++[y]) v') (ht:Turned (fun b=>v.ownBlock=some b) W W') (hs:Shown W (SR S v) W' (SR S v')) (hS:∀g,v'.ownBlock=some g→¬S g):∀g,v'.ownBlock=some g→v.ownBlock=some g∨W.heap.size≤g:=fun g hg=>by
 by_cases hv:v.ownBlock=some g
 ·exact .inl hv
 ·refine .inr (Nat.le_of_not_lt fun hlt=>?_)
  obtain ⟨_,_,_,xs,h1,_⟩:=h
  have hblk:=ht.block g hlt hv
  rcases h1.2 with ⟨he,_⟩ | ⟨g',cap,cur,he,_,k3,_,_,_,k5⟩
  ·rw[he] at hg;cases hg
  ·rw[he] at hg
   simp only[Value.ownBlock,Option.some.injEq] at hg
   subst hg
   have hl:0<xs.length:=by rw[h1.1];simp
   obtain ⟨u,hu⟩:∃u,W.cell? ⟨g',0,none⟩=some u:=by
    have hx0:xs[0]?=some xs[0]:=List.getElem?_eq_getElem hl
    have hc:W'.cell? ⟨g',0,none⟩=some xs[0]:=by
     have:=h1.cells (g:=g') (by rw[he];rfl) 0 _ hx0
     simpa[Addr.add] using this
    refine ⟨xs[0],?_⟩
    unfold World.cell? at hc ⊢
    rwa[hblk] at hc
   exact (hs g' 0 u (fun h=>h.elim (hS g' (by rw[he];rfl)) hv) hu).1 (.inr (by rw[he];rfl))
theorem row_turned {T:Nat→Prop} {W W':World} {base:Nat} {e:TypeId} {size:Nat} {v:Value} {k:Nat} {xs:List Value} (h:W.ownsRow base e size v k xs) (ht:Turned T W W') (hn:∀g,v.ownBlock=some g→¬T g):W'.ownsRow base e size v k xs:=by
 refine ⟨h.1,?_⟩
 rcases h.2 with h' | ⟨g,cap,cur,rfl,k2,k3,k4⟩
 ·exact .inl h'
 ·exact .inr ⟨g,cap,cur,rfl,k2,(ht.block g (h.lt g rfl).2 (hn g rfl)).trans k3,k4⟩
theorem row_less {W:World} {base base':Nat} {e:TypeId} {size:Nat} {v:Value} {k:Nat} {xs:List Value} (h:W.ownsRow base e size v k xs) (hb:base'≤base):W.ownsRow base' e size v k xs:=by
 refine ⟨h.1,?_⟩
 rcases h.2 with h' | ⟨g,cap,cur,rfl,k2,k3,k4⟩
 ·exact .inl h'
 ·exact .inr ⟨g,cap,cur,rfl,Nat.le_trans hb k2,k3,k4⟩
theorem wp_build3 {P:Program} {o:Oper} {a:Act} {w:World} {Q:Exit→Act→World→Prop} {K:Act→World→Prop} {t s1 s2 s3 i1 i2 i3:Nat} {x1 x2 x3 v:Value} (ho:o.op=.build t #[(i1,.tmp s1),(i2,.tmp s2),(i3,.tmp s3)]) (h1:a.tmps.getD s1 undef=x1) (h2:a.tmps.getD s2 undef=x2) (h3:a.tmps.getD s3 undef=x3) (hm:(Instr.build t #[(i1,x1),(i2,x2),(i3,x3)]).run P w=.ok v w) (hK:K (a.put o.dst v) w):o.wp P a w K Q:=by
 refine wp_valF (v:=v) (w':=w) ?_ hK
 unfold execOp
 rw[ho]
 have hmap:(#[(i1,Operand.tmp s1),(i2,Operand.tmp s2),(i3,Operand.tmp s3)]:Array (Nat × Operand)).map (fun (i,x)=>(i,a.eval x))=#[(i1,x1),(i2,x2),(i3,x3)]:=by
  simp only[List.map_toArray,List.map_cons,List.map_nil]
  rw[←h1,←h2,←h3];rfl
 show (do let r ←Instr.build t ((#[(i1,Operand.tmp s1),(i2,Operand.tmp s2),(i3,Operand.tmp s3)]:Array (Nat × Operand)).map (fun (i,x)=>(i,a.eval x)));pure (Next.value r):Sem Next).run P w=_
 rw[hmap]
 simp only[Sem.run_bind,Sem.run_pure,hm,Result.andThen_ok]
theorem row_not_box {W:World} {q base:Nat} {t e:TypeId} {c:List Value} {size:Nat} {v:Value} {k:Nat} {xs:List Value} (hb:BoxL W q t c) (h:W.ownsRow base e size v k xs) (hte:t≠e):∀g,v.ownBlock=some g→¬g=q:=fun g hg he=>by
 subst he
 rcases h.2 with ⟨hv,_⟩ | ⟨g',cap,cur,hv,_,k3,_⟩
 ·rw[hv] at hg;cases hg
 ·rw[hv] at hg
  simp only[Value.ownBlock,Option.some.injEq] at hg
  subst hg
  have h1:W.heap[g']?=some (.cells c.toArray t (0,0)):=hb
  rw[k3] at h1
  simp only[Option.some.injEq,Obj.cells.injEq] at h1
  exact hte h1.2.1.symm
def S3w (S:Nat→Prop) (n q b:Nat):Prop:=S b∨((n≤b∧b<n+2)∨b=q)
structure TrI (b0:Nat) (w:World) (S:Nat→Prop) (fb base:Nat) (sl0:Value) (q:Nat) (o n:Int) (v:List Int) (vs:Value) (sl tsl:Value) (l:List Trm) (cs:List Dat) (W:World):Prop where
 rb:BoxL W (w.heap.size+1) 26 [.int .i64 0,.int .i64 0,.slice none 0 0,.slice none 0 0]
 ob:BoxL W q 26 [.int .i64 o,.int .i64 n,vs,tsl]
 row:GrownT 26 W (FH (S3w S w.heap.size q) fb sl) (w.heap.size+2) l tsl
 fo:FoE b0 W (SR (S3w S w.heap.size q) tsl) fb base sl cs
 vars:SlC (hide W (SR (FH (S3w S w.heap.size q) fb sl) tsl)) W.heap.size 1 IntR v vs
 turned:Turned (FT fb sl0) w W
 own:∀g,sl.ownBlock=some g→sl0.ownBlock=some g∨w.heap.size≤g
 hq:w.heap.size+2≤q
 hfb:fb<w.heap.size
section
variable {b0 : Nat} {w : World} {S : Nat → Prop} {fb base : Nat} {sl0 : Value} {q : Nat} {o n : Int} {v : List Int} {vs sl tsl : Value} {l : List Trm} {cs : List Dat} {W : World}
theorem TrI.fe (h:TrI b0 w S fb base sl0 q o n v vs sl tsl l cs W):FoE b0 W (S3w S w.heap.size q) fb base sl cs:=h.fo.less fun _ h=>.inl h
theorem TrI.called (h:TrI b0 w S fb base sl0 q o n v vs sl tsl l cs W) {p:Trm × List Dat} {e:Ending} {w':World} (he:FoPostE b0 (SR (S3w S w.heap.size q) tsl) fb base sl p W e w') :
  ∃sl' u,e=.returned u∧TrI b0 w S fb base sl0 q o n v vs sl' tsl l p.2 w'∧TmV (SR (FH (S3w S w.heap.size q) fb sl') tsl) p.1 u w':=by
 obtain ⟨o',n',ov,ot,lv,cv,lt,ct,sl',rfl,h1,h2,h3,h4⟩:=he
 have hrow:=h.fo.fo.row
 have hq:=h.hq
 have hfb:=h.hfb
 have nT:∀b,(w.heap.size≤b∧b<w.heap.size+2)∨b=q→¬FT fb sl b:=fun b hb ht=>by
  rcases ht with ht | ht
  ·rcases hb with hb | hb<;>omega
  ·exact hrow.apart b ht (.inl (.inl (.inr hb)))
 have hT:∀b,b<W.heap.size→FT fb sl b→FH (S3w S w.heap.size q) fb sl b:=fun b _ ht=>ht.elim (fun e=>.inl (.inr e)) .inr
 have hS:∀b,FH (S3w S w.heap.size q) fb sl' b→FH (S3w S w.heap.size q) fb sl b∨W.heap.size≤b:=fun b hb=>hb.elim (fun hb=>.inl (.inl hb)) fun hb=>(h4 b hb).imp .inr id
 refine ⟨sl',_,rfl,⟨h3.box h.rb (nT _ (.inl ⟨by omega,by omega⟩)),h3.box h.ob (nT _ (.inr rfl)),h.row.move h3 hT hS (fun b hb=>hb.elim (fun hb=>Nat.lt_of_lt_of_le (h.row.1 b (.inl hb)) h3.size) fun hb=>(h1.fo.row.block hb).2),h1,?_,?_,?_,hq,hfb⟩,?_⟩
 ·exact ints_shown h.vars (Shown.move h3 (fun b hb ht=>.inl (hT b hb ht)) fun b hb=>hb.elim (fun hb=>(hS b hb).imp .inl id) fun hb=>.inl (.inr hb)) h3.size
 ·exact h.turned.trans h3 fun b hb ht=>ht.elim .inl fun ht=>(h.own b ht).elim .inr fun h2=>by omega
 ·exact fun g hg=>(h4 g hg).elim (h.own g) fun h2=>.inr (Nat.le_trans h.turned.size h2)
 ·exact ⟨_,_,_,_,_,_,_,_,rfl,h2.shown (Shown.less _ fun b _ hb=>by
   rcases hb with ((hb | hb) | hb) | hb
   ·exact .inl (.inl (.inl hb))
   ·exact .inl (.inr hb)
   ·exact .inr hb
   ·exact .inl (.inl (.inr hb))) (Nat.le_refl _)⟩
theorem TrI.keep (h:TrI b0 w S fb base sl0 q o n v vs sl tsl l cs W) {W':World} (hb:Below W.heap.size W W'):TrI b0 w S fb base sl0 q o n v vs sl tsl l cs W':=
 ⟨h.rb.keep hb,h.ob.keep hb,h.row.below hb,h.fo.below hb,ints_shown h.vars (Shown.below hb) hb.size,h.turned.trans (.of_below (S:=fun _=>False) hb) (fun _ _ h=>h.elim),h.own,h.hq,h.hfb⟩
theorem TrI.grown (h:TrI b0 w S fb base sl0 q o n v vs sl tsl l cs W) {y:Trm} {tsl':Value} {w':World} (hg:GrownT 26 w' (FH (S3w S w.heap.size q) fb sl) (w.heap.size+2) (l++[y]) tsl') (ht:Turned (fun b=>tsl.ownBlock=some b) W w')
  (hs:Shown W (SR (FH (S3w S w.heap.size q) fb sl) tsl) w' (SR (FH (S3w S w.heap.size q) fb sl) tsl')):TrI b0 w S fb base sl0 q o n v vs sl tsl' (l++[y]) cs (w'.setCell ⟨q,3,none⟩ tsl'):=by
 have hq:=h.hq
 have hfb:=h.hfb
 have hown:=grown_own hg ht hs hg.apart
 have t2:Turned (fun b=>b=q) w' (w'.setCell ⟨q,3,none⟩ tsl'):=Turned.set (S:=fun b=>b=q) _ ⟨q,3,none⟩ _ rfl
 have t3:Turned (fun b=>b=q∨tsl.ownBlock=some b) W (w'.setCell ⟨q,3,none⟩ tsl'):=(ht.wider fun _ _ h=>.inr h).next (t2.wider fun _ _ h=>.inl h)
 have hT:∀b,b<W.heap.size→(b=q∨tsl.ownBlock=some b)→SR (S3w S w.heap.size q) tsl b:=fun b _ hb=>hb.elim (fun e=>.inl (.inr (.inr e))) .inr
 have hlo:∀b,(b=q∨tsl.ownBlock=some b)→w.heap.size+2≤b:=fun b hb=>hb.elim (fun e=>by omega) fun hb=>(h.row.block hb).1
 have hb0:b0≤fb:=h.fo.lf
 refine ⟨t3.box h.rb (fun hb=>by have:=hlo _ hb;omega),(ht.box h.ob (fun hb=>h.row.apart q hb (.inl (.inl (.inr (.inr rfl)))))).set 3 _,hg.turned t2 (fun b _ e=>.inl (.inl (.inr (.inr e)))),?_,?_,?_,h.own,hq,hfb⟩
 ·refine h.fo.move t3 (fun b hb=>by have:=hlo b hb;omega) hT (fun hb=>by have:=hlo _ hb;omega) (fun b hb=>?_) fun b hb=>?_
  ·rcases hb with hb | hb
   ·exact .inl (.inl hb)
   ·exact (hown b hb).imp .inr id
  ·rw[World.size_setCell]
   rcases hb with hb | hb
   ·exact Nat.lt_of_lt_of_le (h.row.1 b (.inl (.inl hb))) ht.size
   ·exact (hg.block hb).2
 ·refine ints_shown h.vars (Shown.move t3 (fun b hb t=>?_) fun b hb=>?_) t3.size
  ·rcases t with t | t
   ·exact .inl (.inl (.inl (.inr (.inr t))))
   ·exact .inr t
  ·rcases hb with hb | hb
   ·exact .inl (.inl hb)
   ·exact (hown b hb).imp .inr id
 ·exact h.turned.trans t3 fun b hb t=>by have:=hlo b t;omega
theorem TrI.init (hf:FoE b0 w S fb base sl0 cs) (hb0:Below w.heap.size w W) (hrb:BoxL W (w.heap.size+1) 26 [.int .i64 0,.int .i64 0,.slice none 0 0,.slice none 0 0]) (hob:BoxL W q 26 [.int .i64 o,.int .i64 n,vs,.slice none 0 0]) (hq:w.heap.size+2≤q)
  (hv:W.ownsRow (w.heap.size+2) 3 1 vs v.length (v.map (Value.int .i64))) (hi:∀x∈v,I64 x):TrI b0 w S fb base sl0 q o n v vs sl0 (.slice none 0 0) [] cs W:=by
 have hlt:=hf.fo.lt
 have hq2:=hob.lt
 have hr2:=hrb.lt
 have hS:∀b,FH (S3w S w.heap.size q) fb sl0 b→FH S fb sl0 b∨w.heap.size≤b:=fun b hb=>by
  rcases hb with ((hb | hb) | hb) | hb
  ·exact .inl (.inl (.inl hb))
  ·exact .inr (by omega)
  ·exact .inl (.inl (.inr hb))
  ·exact .inl (.inr hb)
 have hl:∀b,FH (S3w S w.heap.size q) fb sl0 b→b<W.heap.size:=fun b hb=>by
  rcases hb with ((hb | hb) | hb) | hb
  ·exact Nat.lt_of_lt_of_le (hlt b (.inl (.inl hb))) hb0.size
  ·omega
  ·exact Nat.lt_of_lt_of_le (hlt b (.inl (.inr hb))) hb0.size
  ·exact Nat.lt_of_lt_of_le (hlt b (.inr hb)) hb0.size
 have hz:=hb0.size
 have hne:=row_not_box hob hv (by decide)
 refine ⟨hrb,hob,.nil W hl (by omega),?_,?_,.of_below hb0,fun g hg=>.inl hg,hq,hf.fo.box.lt⟩
 ·refine hf.move (T:=fun _=>False) (.of_below hb0) (fun _ h=>h.elim) (fun _ _ h=>h.elim) id (fun b hb=>?_) fun b hb=>?_
  ·rcases hb with (hb | hb) | hb
   ·exact .inl hb
   ·exact .inr (by omega)
   ·cases hb
  ·rcases hb with hb | hb
   ·exact hl b (.inl (.inl hb))
   ·cases hb
 ·have:=slC_of_row (w:=hide W (SR (FH (S3w S w.heap.size q) fb sl0) (.slice none 0 0))) (row_hide (S:=SR (FH (S3w S w.heap.size q) fb sl0) (.slice none 0 0)) hv (fun g hg hb=>?_)) (cellsG_ints hi)
  ·rwa[hide_size] at this
  ·have h1:=(hv.lt g hg).1
   rcases hb with (((hb | hb) | hb) | hb) | hb
   ·have:=hlt g (.inl (.inl hb));omega
   ·exact hb.elim (fun h=>by omega) (hne g hg)
   ·have:=hlt g (.inl (.inr hb));omega
   ·have:=hlt g (.inr hb);omega
   ·cases hb
theorem TrI.term (h:TrI b0 w S fb base sl0 q o n v vs sl tsl l cs W) (ho:I64 o) (hn:I64 n):TrmR (hide W (FH (S3w S w.heap.size q) fb sl)) W.heap.size (.mk o n v l) [.int .i64 o,.int .i64 n,vs,tsl]:=
 trmR_iff.2 ⟨_,_,rfl,ho,hn,ints_shown h.vars (Shown.less _ fun _ _ h=>.inl h) (Nat.le_refl _),h.row.rep⟩
theorem TrI.fin (h:TrI b0 w S fb base sl0 q o n v vs sl tsl l cs W) {p:Trm × List Dat} {e:Ending} {w':World} (he:FoPostE b0 (S3w S w.heap.size q) fb base sl p W e w'):∃(o2 n2:Int) (ov2 ot2:Option Addr) (lv2 cv2 lt2 ct2:Nat),e=.returned (.agg #[.int .i64 o2,.int .i64 n2,.slice ov2 lv2 cv2,.slice ot2 lt2 ct2])∧BoxL w' (w.heap.size+1) 26 [.int .i64 0,.int .i64 0,.slice none 0 0,.slice none 0 0] ∧
  FoPostE b0 S fb base sl0 p w (.returned (.agg #[.int .i64 o2,.int .i64 n2,.slice ov2 lv2 cv2,.slice ot2 lt2 ct2])) ((((w'.setCell ⟨w.heap.size+1,0,none⟩ (.int .i64 o2)).setCell ⟨w.heap.size+1,1,none⟩ (.int .i64 n2)).setCell ⟨w.heap.size+1,2,none⟩ (.slice ov2 lv2 cv2)).setCell ⟨w.heap.size+1,3,none⟩ (.slice ot2 lt2 ct2)):=by
 obtain ⟨o2,n2,ov2,ot2,lv2,cv2,lt2,ct2,sl',rfl,h1,h2,h3,h4⟩:=he
 have hfb:=h.hfb
 have hb0:b0≤fb:=h.fo.lf
 have ht4:=set4_turned w' (S:=fun b=>b=w.heap.size+1) (b:=w.heap.size+1) rfl (.int .i64 o2) (.int .i64 n2) (.slice ov2 lv2 cv2) (.slice ot2 lt2 ct2)
 refine ⟨_,_,_,_,_,_,_,_,rfl,h3.box h.rb (fun ht=>?_),_,_,_,_,_,_,_,_,sl',rfl,?_,?_,?_,?_⟩
 ·rcases ht with ht | ht
  ·omega
  ·exact h.fo.fo.row.apart _ ht (.inl (.inl (.inr (.inl ⟨by omega,by omega⟩))))
 ·exact h1.move ht4 (fun b e=>by omega) (fun b _ e=>.inr (.inl ⟨by omega,by omega⟩)) (fun e=>by omega) (fun b hb=>.inl (.inl hb)) fun b hb=>by
   rw[set4_size]
   exact h1.fo.row.1 b (.inl (.inl hb))
 ·exact h2.shown (Shown.trans (Shown.turned ht4 fun b _ e=>.inl (.inl (.inr (.inl ⟨by omega,by omega⟩)))) (Shown.less _ fun b _ hb=>by
   rcases hb with (hb | hb) | hb
   ·exact .inl (.inl (.inl hb))
   ·exact .inl (.inr hb)
   ·exact .inr hb)) (by rw[set4_size];exact Nat.le_refl _)
 ·refine (h.turned.trans h3 fun b hb ht=>?_).trans ht4 fun b hb e=>by omega
  exact ht.elim .inl fun ht=>(h.own b ht).elim .inr fun h2=>by omega
 ·exact fun g hg=>(h4 g hg).elim (h.own g) fun h2=>.inr (Nat.le_trans h.turned.size h2)
theorem TrI.fin3 (h:TrI b0 w S fb base sl0 q o n v vs sl tsl l cs W) {x:Trm} {w':World} {o2 n2:Int} {ov2 ot2:Option Addr} {lv2 cv2 lt2 ct2:Nat} (hr:TrmR (hide w' (FH (S3w S w.heap.size q) fb sl)) w'.heap.size x [.int .i64 o2,.int .i64 n2,.slice ov2 lv2 cv2,.slice ot2 lt2 ct2]) (hb:Below W.heap.size W w'):BoxL w' (w.heap.size+1) 26 [.int .i64 0,.int .i64 0,.slice none 0 0,.slice none 0 0] ∧
  FoPostE b0 S fb base sl0 (x,cs) w (.returned (.agg #[.int .i64 o2,.int .i64 n2,.slice ov2 lv2 cv2,.slice ot2 lt2 ct2])) ((((w'.setCell ⟨w.heap.size+1,0,none⟩ (.int .i64 o2)).setCell ⟨w.heap.size+1,1,none⟩ (.int .i64 n2)).setCell ⟨w.heap.size+1,2,none⟩ (.slice ov2 lv2 cv2)).setCell ⟨w.heap.size+1,3,none⟩ (.slice ot2 lt2 ct2)):=by
 obtain ⟨o3,n3,ov3,ot3,lv3,cv3,lt3,ct3,he,h1,h2⟩:=h.fin (e:=.returned (.agg #[.int .i64 o2,.int .i64 n2,.slice ov2 lv2 cv2,.slice ot2 lt2 ct2])) (.same h.fe ⟨_,_,_,_,_,_,_,_,rfl,hr,hb⟩)
 simp only[Ending.returned.injEq,Value.agg.injEq,Array.mk.injEq,List.cons.injEq,Value.int.injEq,Value.slice.injEq,true_and,and_true] at he
 obtain ⟨rfl,rfl,⟨rfl,rfl,rfl⟩,rfl,rfl,rfl⟩:=he
 exact ⟨h1,h2⟩
theorem TrI.fin2 (h:TrI b0 w S fb base sl0 q o n v vs sl tsl l cs W) {x:Trm} {e:Ending} {w':World} (he:TmPost (FH (S3w S w.heap.size q) fb sl) x W e w'):FoPostE b0 (S3w S w.heap.size q) fb base sl (x,cs) W e w':=.same h.fe he
end
def TgR (n:Nat) (o m:Int) (vv:Value) (vl:List Int) (i:Nat) (v:Value) (W:World):Prop:=match i with
 | 0=>v=.pointer (some ⟨n,0,none⟩)
 | 1=>v=.int .i64 o
 | 2=>v=.pointer (some ⟨n,1,none⟩)
 | 3=>v=.int .i64 m
 | 4=>v=.pointer (some ⟨n,2,none⟩)
 | 5=>v=vv
 | 6=>∃o' l' c',v=.slice o' l' c'∧W.ownsRow (n+2) 3 1 v vl.length (vl.map (Value.int .i64))
 | 7=>∃o' l' c',v=.agg #[.int .i64 o,.int .i64 m,.slice o' l' c',.slice none 0 0]∧W.ownsRow (n+2) 3 1 (.slice o' l' c') vl.length (vl.map (Value.int .i64))
 | 8=>∃q,v=.pointer (some ⟨q,0,none⟩)∧BoxL W q 26 [.int .i64 0,.int .i64 0,.slice none 0 0,.slice none 0 0]∧n+2≤q
 | _=>True
theorem row_keep {W W':World} {base:Nat} {e:TypeId} {size:Nat} {v:Value} {k:Nat} {xs:List Value} (h:W.ownsRow base e size v k xs) (hb:Below W.heap.size W W'):W'.ownsRow base e size v k xs:=by
 refine ⟨h.1,?_⟩
 rcases h.2 with h' | ⟨g,cap,cur,rfl,k2,k3,k4⟩
 ·exact .inl h'
 ·exact .inr ⟨g,cap,cur,rfl,k2,(hb.block g (h.lt g rfl).2).trans k3,k4⟩
theorem tgR_kept {n:Nat} {o m:Int} {vv:Value} {vl:List Int}:∀i v A B,TgR n o m vv vl i v A→Below A.heap.size A B→TgR n o m vv vl i v B:=fun i v A B h hb=>by
 match i with
 | 0=>exact h
 | 1=>exact h
 | 2=>exact h
 | 3=>exact h
 | 4=>exact h
 | 5=>exact h
 | 6=>
  obtain ⟨o',l',c',h1,h2⟩:=h
  exact ⟨o',l',c',h1,row_keep h2 hb⟩
 | 7=>
  obtain ⟨o',l',c',h1,h2⟩:=h
  exact ⟨o',l',c',h1,row_keep h2 hb⟩
 | 8=>
  obtain ⟨q,h1,h2,h3⟩:=h
  exact ⟨q,h1,h2.keep hb,h3⟩
 | i+9=>trivial
def ThR (b0:Nat) (w:World) (S:Nat→Prop) (fb base:Nat) (sl0:Value) (q:Nat) (o n:Int) (v:List Int) (vs tsl:Value) (l:List Trm) (p:Trm × List Dat) (yc:Value) (i:Nat) (u:Value) (W:World):Prop:=match i with
 | 0=>u=.pointer (some ⟨q,3,none⟩)
 | 1=>u=tsl
 | 2=>u=.pointer (some ⟨fb,0,none⟩)
 | 3=>u=yc
 | 4=>∃sl,TrI b0 w S fb base sl0 q o n v vs sl tsl l p.2 W∧TmV (SR (FH (S3w S w.heap.size q) fb sl) tsl) p.1 u W
 | 5=>∃sl,TrI b0 w S fb base sl0 q o n v vs sl tsl l p.2 W∧TrmS (hide W (SR (FH (S3w S w.heap.size q) fb sl) tsl)) W.heap.size [p.1] u
 | _=>True
structure ThP (q:Nat) (oc:List Value) (W5:World) (listed:Array Bool) (W:World):Prop where
 box:BoxL W q 26 oc
 first:listed.getD 4 false=false→W=W5
 l3:listed.getD 4 false=true→listed.getD 3 false=true
 l5:listed.getD 5 false=true→listed.getD 4 false=true
section
variable {q : Nat} {oc : List Value} {W5 W W' : World} {listed : Array Bool}
theorem ThP.other (h:ThP q oc W5 listed W) {i:Nat} (h3:i≠3) (h4:i≠4) (h5:i≠5):ThP q oc W5 (listed.setIfInBounds i true) W:=
 ⟨h.box,(fun k=>h.first (by rwa[getD_set_ne false h4] at k)),(fun k=>by rw[getD_set_ne false h3];exact h.l3 (by rwa[getD_set_ne false h4] at k)),(fun k=>by rw[getD_set_ne false h4];exact h.l5 (by rwa[getD_set_ne false h5] at k))⟩
theorem ThP.load (h:ThP q oc W5 listed W) (hn:listed.getD 3 false=false):ThP q oc W5 (listed.setIfInBounds 3 true) W:=
 ⟨h.box,(fun k=>h.first (by rwa[getD_set_ne false (by decide)] at k)),(fun k=>by rw[getD_set_ne false (by decide)] at k;rw[h.l3 k] at hn;cases hn),(fun k=>by rw[getD_set_ne false (by decide)] at k ⊢;exact h.l5 k)⟩
theorem ThP.call (_h:ThP q oc W5 listed W) (hl:4<listed.size) (hb:BoxL W' q 26 oc) (h3:listed.getD 3 false=true):ThP q oc W5 (listed.setIfInBounds 4 true) W':=
 ⟨hb,(fun k=>by simp[hl] at k),(fun _=>by rw[getD_set_ne false (by decide)];exact h3),(fun _=>by simp[hl])⟩
theorem ThP.kept4 (h:ThP q oc W5 listed W) (hn:listed.getD 4 false=false) {b0:Nat} {w:World} {S:Nat→Prop} {fb base:Nat} {sl0:Value} {o n:Int} {v:List Int} {vs tsl:Value} {l:List Trm} {p:Trm × List Dat} {yc:Value} (j:Nat) (u:Value) (hj:j≠4) (hl:listed.getD j false=true) (hr:ThR b0 w S fb base sl0 q o n v vs tsl l p yc j u W):ThR b0 w S fb base sl0 q o n v vs tsl l p yc j u W':=by
 match j,hj with
 | 0,_=>exact hr
 | 1,_=>exact hr
 | 2,_=>exact hr
 | 3,_=>exact hr
 | 5,_=>rw[h.l5 hl] at hn;cases hn
 | j+6,_=>trivial
theorem thR_below {b0:Nat} {w:World} {S:Nat→Prop} {fb base:Nat} {sl0:Value} {o n:Int} {v:List Int} {vs tsl:Value} {l:List Trm} {p:Trm × List Dat} {yc:Value} {j:Nat} {u:Value} (hj:j≠5) (hr:ThR b0 w S fb base sl0 q o n v vs tsl l p yc j u W) (hb:Below W.heap.size W W'):ThR b0 w S fb base sl0 q o n v vs tsl l p yc j u W':=by
 match j,hj with
 | 0,_=>exact hr
 | 1,_=>exact hr
 | 2,_=>exact hr
 | 3,_=>exact hr
 | 4,_=>
  obtain ⟨sl,h1,h2⟩:=hr
  exact ⟨sl,h1.keep hb,h2.shown (Shown.below hb) hb.size⟩
 | j+6,_=>trivial
end
theorem fterm1_any (x:Trm) (c0 c1 c2 c3:Value) (v:Int) (b:Nat) (w:World) (hb:BoxL w b 26 [c0,c1,c2,c3]) (hx:TrmR w w.heap.size x [c0,c1,c2,c3]) (ha:x.all≤1000) (hn:x.bnd.length≤3000000) :
  Calls Tryz.prog 42 #[.int .i64 v,.pointer (some ⟨b,0,none⟩)] w fun e w'=>e=.returned (.bool (Fd.named v x))∧Below w.heap.size w w':=by
 have HC:=Lib.hid (fnamed_any x c0 c1 c2 c3 v w.heap.size w hx (Nat.le_refl _) ha hn)
 have e0:=hb.cell 0 rfl
 have e1:=hb.cell 1 rfl
 have e2:=hb.cell 2 rfl
 have e3:=hb.cell 3 rfl
 have el:=hb.lt
 obtain ⟨ov,lv,cv,ot,lt,ct,he,_⟩:=trmR_form hx
 simp only[List.cons.injEq,and_true] at he
 obtain ⟨rfl,rfl,rfl,rfl⟩:=he
 clear hb hx
 go_enter Tryz.func42,Tryz.ntmps42
 go_wp2_with fail
 refine HC.out.mono ?_
 rintro e w1 ⟨rfl,hb1⟩
 go_wp2_with fail
 go_ret
 exact ⟨rfl,hb1⟩
theorem wpList_growT4 {w:World} {Q:Exit→Act→World→Prop} {ops:Array Oper} {rest:List Oper} {a:Act} {o:Oper} {S:Nat→Prop} (hg:o.guard=none) (s x:Operand) (ho:o.op=.call { callee:=.builtin .append,args:=#[s,x],argTypes:=#[24,24] }) (base:Nat) (v xv:Value) (l k:List Trm) (hs:a.eval s=v) (hgr:GrownT 26 w S base l v) (hx:a.eval x=xv) (hk:TrmS (hide w (SR S v)) w.heap.size k xv) (hm:l.length+k.length≤1000000)
  (h:∀o' len' cap' w',Hid (GrownT 26 w' S base (l++k) (.slice o' len' cap'))→Hid (Turned (fun b=>v.ownBlock=some b) w w')→Hid (Shown w (SR S v) w' (SR S (.slice o' len' cap')))→wpList Tryz.prog ops Q rest (a.put o.dst (.slice o' len' cap')) w'):wpList Tryz.prog ops Q (o::rest) a w:=
 wpList_plain hg fun _ hK=>wp_growT s x ho base v xv l k hs (Lib.hid hgr) hx (Lib.hid hk) hm fun o' len' cap' w' h1 _ h3 h4=>hK _ _ (h o' len' cap' w' h1 h3 h4)
theorem cloneI4_any (l:List Int) (v:Value) (B:Nat) (w:World) (hv:SlC w B 1 IntR l v) (hB:B≤w.heap.size) (hm:l.length≤4000000) :
  Calls Tryz.prog 35 #[v] w fun e w'=>∃v',e=.returned v'∧w'.ownsRow w.heap.size 3 1 v' l.length (l.map (Value.int .i64))∧(∃o len cap,v'=.slice o len cap)∧Below w.heap.size w w':=by
 obtain ⟨o,len,cap,rfl⟩:=hv.form
 have HV:=Lib.hid hv
 obtain ⟨hlen,_,hmax⟩:=hv.lens
 have HL:=Lib.hid hlen
 have hm':len≤4000000:=by omega
 clear hlen
 cases o with
 | none=>
  obtain ⟨o',l',c',he,h1,h2,_,h4⟩:=hv
  simp only[Value.slice.injEq] at he
  obtain ⟨rfl,rfl,rfl⟩:=he
  obtain ⟨rfl,rfl⟩:=h4
  simp at h1
  subst h1
  clear HV HL h2
  have he:=fun (w:World)=>Lib.run_eql_slice_nil (P:=Tryz.prog) w 23 3 none 0 0 0 0 Tryz.underlying23
  go_enter Tryz.func35,Tryz.ntmps35
  go_wp2_with fail
  go_ret
  exact ⟨_,rfl,World.ownsRow_nil _ _ _ _,⟨_,_,_,rfl⟩,Below.refl _ _⟩
 | some a=>
  have he:=fun (w:World)=>Lib.run_eql_slice_nil (P:=Tryz.prog) w 23 3 (some a) len cap 0 0 Tryz.underlying23
  have HS:=Lib.hid (show SlC (w.alloc (.cells [].toArray 3)) B 1 IntR l (.slice (some a) len cap) from HV.out.kept ((Below.one w _).mono hB) fun _ _ _ h=>h)
  have HO:=Lib.hid (ownsRow_new (W:=w) (b:=w.heap.size) (base:=w.heap.size) rfl (Nat.le_refl _) 3 1 0 [] rfl (by unfold maxLen;omega))
  clear hv
  go_enter Tryz.func35,Tryz.ntmps35
  go_wp2_with (at_builtin;refine wpList_append_ints rfl (.tmp 5) (.tmp 6) rfl w.heap.size B (.slice (some ⟨w.heap.size,0,none⟩) 0 0) [] l rfl HO.out (some a) len cap rfl HS.out (by simp;omega) (by simp) ?_)
  intro v' w2 hown hgrow
  have HR:=Lib.hid (show w2.ownsRow w.heap.size 3 1 v' l.length (l.map (Value.int .i64)) from hown)
  obtain ⟨o',l',c',rfl⟩:∃o' l' c',v'=.slice o' l' c':=by
   rcases hown.2 with ⟨h,_⟩ | ⟨g,cap,cur,h,_⟩
   ·exact ⟨_,_,_,h⟩
   ·exact ⟨_,_,_,h⟩
  have HB:=Lib.hid (show Below w.heap.size w w2 from (Below.one w _).grown hgrow (by simp) (fun g hg=>by simp[Value.ownBlock] at hg;omega))
  clear hown hgrow
  go_wp2_with fail
  go_ret
  exact ⟨_,rfl,HR.out,⟨_,_,_,rfl⟩,HB.out⟩
end
end Go.Proofs.YtgbibibmpoekiaaGreatDoor
