/- .. -/
import Derived.Test.YtnbjhmafnigefaaGreatDoorSmkA10
open Go.Proofs.Tryz
set_option maxRecDepth 100000
set_option maxHeartbeats 16000000
namespace Go.Proofs.YtnbjhmafnigefaaGreatDoor
section
open Go Go.RowKit
theorem zfv {P:Program} {id:Nat} {Q:Exit→Act→World→Prop} {a0:Act} {w:World} {l:List Oper} (n q:Nat) (oq:Oper) (dq:Nat) (S0:Nat→Prop) (R:(Nat→Prop)→Nat→Value→World→Prop) (z:Obj) (hm:P.follows .mixedOrders=true) (hB:monoB l.toArray n a0.tmps.size=true)
  (hq:l.toArray[q]?=some oq∧oq.dst=some dq∧q<n) (hS:∀c,S0 c→c<w.drew.heap.size)
  (hR:∀S i v A B,R S i v A→Below A.heap.size A B→R S i v B)
  (hnew:∀i v A,R S0 i v A→(∀c,S0 c→c<A.heap.size)→R (S1 S0 A.heap.size) i v (A.alloc z))
  (hops:∀S i o,i<n→i≠q→l.toArray[i]?=some o→∀(a:Act) (w1:World),a.defers=a0.defers→a.tmps.size=a0.tmps.size→Below w.drew.heap.size w.drew w1→(∀c,S0 c→S c)→(∀c,S c→c<w1.heap.size)→(∀c,S c→S0 c∨w.drew.heap.size≤c)→(∀j oj d,j<n→j≠q→l.toArray[j]?=some oj→(∃e∈o.after,Region.binds .any e=true∧e.on=j)→oj.dst=some d→R S j (a.tmps.getD d undef) w1)→Rest l.toArray n a0 a →
   wpList P l.toArray (StepPost (R S) (fun A B=>Below A.heap.size A B) i o a w1) [o] a w1)
  (hbox:∀(a:Act) (w1:World),wpList P l.toArray (fun e a' w'=>e=.normal∧a'=a.put oq.dst (.pointer (some ⟨w1.heap.size,0,none⟩))∧w'=w1.alloc z) [oq] a w1)
  (hend:∀a w1 G,a.defers=a0.defers→a.tmps.size=a0.tmps.size→Below w.drew.heap.size w.drew w1→a.tmps.getD dq undef=.pointer (some ⟨G,0,none⟩)→w.drew.heap.size≤G→w1.heap[G]?=some z→(∀i o d,i<n→i≠q→l.toArray[i]?=some o→o.dst=some d→R (S1 S0 G) i (a.tmps.getD d undef) w1)→Rest l.toArray n a0 a→wpList P l.toArray Q (l.drop n) a w1) :
  (Code.region id l.toArray true).wp P Q a0 w:=by
 have hB':=hB
 simp only[monoB,monoG,Bool.and_eq_true,decide_eq_true_eq] at hB'
 obtain ⟨⟨_,_,_,hn,hsl,_⟩,hgd⟩:=hB'
 obtain ⟨hq1,hq2,hq3⟩:=hq
 have hput:∀{i j o oj d x v},i<n→j<n→l.toArray[i]?=some o→l.toArray[j]?=some oj→oj.dst=some d→x.tmps.size=a0.tmps.size→i≠j→(Act.put x o.dst v).tmps.getD d undef=x.tmps.getD d undef:=by
  intro i j o oj d x v hi hj ho hoj hd hsz hij
  cases hdo:o.dst with
  | none=>rfl
  | some d'=>
   obtain ⟨hd',hne'⟩:=zaS hsl hi hj ho hoj hdo hd
   rw[zaI (by rw[hsz];exact hd'),if_neg (hne'.resolve_left hij)]
 have hself:∀{i o d x v},i<n→l.toArray[i]?=some o→o.dst=some d→x.tmps.size=a0.tmps.size→(Act.put x o.dst v).tmps.getD d undef=v:=by
  intro i o d x v hi ho hd hsz
  have hd':=(zaS hsl hi hi ho ho hd hd).1
  rw[hd,zaI (by rw[hsz];exact hd'),if_pos rfl]
 refine zbM n (fun listed a W=>Below w.drew.heap.size w.drew W∧∃S,(∀c,S0 c→S c)∧(∀c,S c→c<W.heap.size)∧(∀c,S c→S0 c∨w.drew.heap.size≤c)∧(listed.getD q false=false→S=S0)∧(listed.getD q false=true→∃G,a.tmps.getD dq undef=.pointer (some ⟨G,0,none⟩)∧w.drew.heap.size≤G∧W.heap[G]?=some z∧S=S1 S0 G) ∧
  ∀i o d,i<n→i≠q→l.toArray[i]?=some o→listed.getD i false=true→o.dst=some d→R S i (a.tmps.getD d undef) W) hm hB ?_ ?_ ?_
 ·exact ⟨Below.refl _ _,S0,fun _ h=>h,hS,fun _ h=>.inl h,fun _=>rfl,fun h=>by rw[getD_replicate_false] at h;(cases h),fun i o d _ _ _ h=>by rw[getD_replicate_false] at h;(cases h)⟩
 ·intro i o hi ho listed a w1 hls hdf hsz hrest ⟨hb,S,hs1,hs2,hs3,hs4,hs5,hval⟩ hun hdeps
  have hlt:i<listed.size:=by rw[hls];omega
  have hset:(listed.setIfInBounds i true).getD i false=true:=by simp[hlt]
  by_cases hiq:i=q
  ·subst hiq
   obtain rfl:oq=o:=Option.some.inj (hq1.symm.trans ho)
   have hS0:=hs4 hun
   subst hS0
   refine zas (zaB hgd hi ho) (hbox a w1) ?_
   rintro a' w' ⟨rfl,rfl⟩
   have hone:Below w1.heap.size w1 (w1.alloc z):=Below.one _ _
   refine ⟨rfl,_,rfl,hb.trans (hone.mono hb.size),S1 S w1.heap.size,fun c h=>.inl h,fun c h=>h.elim (fun h=>Nat.lt_of_lt_of_le (hs2 c h) hone.size) fun h=>by subst h;simp,fun c h=>h.elim (fun h=>.inl h) fun h=>.inr (by have:=hb.size;omega),fun h=>by rw[hset] at h;(cases h),fun _=>⟨w1.heap.size,hself hi ho hq2 hsz,hb.size,World.alloc_heap_new _ _,rfl⟩,fun j oj d hj hjq hoj hl hd=>?_⟩
   rw[getD_set_ne false (Ne.symm hjq)] at hl
   rw[hput hi hj ho hoj hd hsz (Ne.symm hjq)]
   exact hnew j _ _ (hval j oj d hj hjq hoj hl hd) hs2
  ·refine zas (zaB hgd hi ho) (hops S i o hi hiq ho a w1 hdf hsz hb hs1 hs2 hs3 (fun j oj d hj hjq hoj ⟨e,he,hbn,hon⟩ hd=>hval j oj d hj hjq hoj (by have:=hdeps e he hbn;rwa[hon] at this) hd) hrest) ?_
   rintro a' w' ⟨v,rfl,hv,hx⟩
   refine ⟨rfl,v,rfl,hb.trans (hx.mono hb.size),S,hs1,fun c h=>Nat.lt_of_lt_of_le (hs2 c h) hx.size,hs3,fun h=>hs4 (by rwa[getD_set_ne false hiq] at h),fun h=>?_,fun j oj d hj hjq hoj hl hd=>?_⟩
   ·rw[getD_set_ne false hiq] at h
    obtain ⟨G,g1,g2,g3,g4⟩:=hs5 h
    exact ⟨G,by rw[hput hi hq3 ho hq1 hq2 hsz hiq];exact g1,g2,(hx.block _ (Array.getElem?_eq_some_iff.1 g3).1).trans g3,g4⟩
   ·by_cases e:i=j
    ·subst e
     obtain rfl:oj=o:=Option.some.inj (hoj.symm.trans ho)
     rw[hself hi ho hd hsz]
     exact hv
    ·rw[getD_set_ne false e] at hl
     rw[hput hi hj ho hoj hd hsz e]
     exact hR S j _ _ _ (hval j oj d hj hjq hoj hl hd) hx
 ·intro listed a w1 hall hdf hsz hrest ⟨hb,S,hs1,hs2,hs3,hs4,hs5,hval⟩
  obtain ⟨G,g1,g2,g3,rfl⟩:=hs5 (hall q hq3)
  exact hend a w1 G hdf hsz hb g1 g2 g3 (fun i o d hi hiq ho hd=>hval i o d hi hiq ho (hall i hi) hd) hrest
end
section
open Go Go.RowKit
inductive Sp
 | val (v:Value)
 | dat (o:Option Dat)
 | row (o:Option (List Dat))
 | one (o:Option Dat)
 | elm (o:Option Dat)
 | sla (o:Option (List Dat))
 | stp (s:ByteArray)
 | any
def Sp.holds (S:Nat→Prop) (sp:Sp) (v:Value) (W:World):Prop:=match sp with
 | .val u=>v=u
 | .dat o=>∃x,o=some x∧RepD (hide W S) W.heap.size x v
 | .row o=>∃l,o=some l∧RepS (hide W S) W.heap.size l v
 | .one o=>∃x p,o=some x∧v=.slice p 1 1∧RepS (hide W S) W.heap.size [x] v
 | .elm o=>∃x c off,∃(k n d:Int) (s:ByteArray) (p:Option Addr) (len cap:Nat),o=some x∧v=.pointer (some ⟨c,off,none⟩)∧(hide W S).cell? ⟨c,off,none⟩=some (.int .i64 k)∧(hide W S).cell? ⟨c,off+1,none⟩=some (.int .i64 n)∧(hide W S).cell? ⟨c,off+2,none⟩=some (.int .i64 d)∧(hide W S).cell? ⟨c,off+3,none⟩=some (.string s)∧(hide W S).cell? ⟨c,off+4,none⟩=some (.slice p len cap)∧RepD (hide W S) W.heap.size x (.agg #[.int .i64 k,.int .i64 n,.int .i64 d,.string s,.slice p len cap])
 | .sla o=>∃l c off u,o=some l∧v=.pointer (some ⟨c,off,none⟩)∧(hide W S).cell? ⟨c,off,none⟩=some u∧RepS (hide W S) W.heap.size l u
 | .stp s=>∃c off,v=.pointer (some ⟨c,off,none⟩)∧(hide W S).cell? ⟨c,off,none⟩=some (.string s)
 | .any=>True
theorem Sp.shown {S S':Nat→Prop} {sp:Sp} {v:Value} {W W':World} (h:sp.holds S v W) (hs:Shown W S W' S') (hz:W.heap.size≤W'.heap.size):sp.holds S' v W':=by
 cases sp with
 | val u=>exact h
 | dat o=>obtain ⟨x,hx,h⟩:=h;exact ⟨x,hx,h.shown hs hz⟩
 | row o=>obtain ⟨x,hx,h⟩:=h;exact ⟨x,hx,h.shown hs hz⟩
 | one o=>obtain ⟨x,p,hx,hp,h⟩:=h;exact ⟨x,p,hx,hp,h.shown hs hz⟩
 | elm o=>
  obtain ⟨x,c,off,k,n,d,s,p,len,cap,hx,hv,e0,e1,e2,e3,e4,h⟩:=h
  exact ⟨x,c,off,k,n,d,s,p,len,cap,hx,hv,hs.cells _ _ _ e0,hs.cells _ _ _ e1,hs.cells _ _ _ e2,hs.cells _ _ _ e3,hs.cells _ _ _ e4,h.shown hs hz⟩
 | sla o=>
  obtain ⟨l,c,off,u,hx,hv,e0,h⟩:=h
  exact ⟨l,c,off,u,hx,hv,hs.cells _ _ _ e0,h.shown hs hz⟩
 | stp s=>
  obtain ⟨c,off,hv,e0⟩:=h
  exact ⟨c,off,hv,hs.cells _ _ _ e0⟩
 | any=>trivial
theorem Sp.turned {S:Nat→Prop} {sp:Sp} {v:Value} {W W':World} {b:Nat} (h:sp.holds S v W) (hb:S b) (ht:Turned (fun c=>c=b) W W'):sp.holds S v W':=
 Sp.shown h (Shown.turned ht fun c _ hc=>by subst hc;exact hb) ht.size
theorem Sp.below {S:Nat→Prop} {sp:Sp} {v:Value} {W W':World} (h:sp.holds S v W) (hb:Below W.heap.size W W'):sp.holds S v W':=Sp.shown h (Shown.below hb) hb.size
theorem Sp.datum {S:Nat→Prop} {x:Dat} {v:Value} {W:World} (h:(Sp.dat (some x)).holds S v W):RepD (hide W S) W.heap.size x v:=by
 obtain ⟨y,hy,h⟩:=h
 rw[Option.some.inj hy];exact h
theorem Sp.data {S:Nat→Prop} {l:List Dat} {v:Value} {W:World} (h:(Sp.row (some l)).holds S v W):RepS (hide W S) W.heap.size l v:=by
 obtain ⟨y,hy,h⟩:=h
 rw[Option.some.inj hy];exact h
theorem Sp.ofD {S:Nat→Prop} {x:Dat} {v:Value} {W:World} (h:RepD (hide W S) W.heap.size x v):(Sp.dat (some x)).holds S v W:=⟨x,rfl,h⟩
theorem Sp.ofS {S:Nat→Prop} {l:List Dat} {v:Value} {W:World} (h:RepS (hide W S) W.heap.size l v):(Sp.row (some l)).holds S v W:=⟨l,rfl,h⟩
theorem Sp.box {S:Nat→Prop} {x:Dat} {W:World} {G:Nat} {k n d:Int} {s:ByteArray} {p:Option Addr} {len cap:Nat} (hb:Box5 W G 26 (.int .i64 k) (.int .i64 n) (.int .i64 d) (.string s) (.slice p len cap)) (hx:RepD (hide W S) W.heap.size x (.agg #[.int .i64 k,.int .i64 n,.int .i64 d,.string s,.slice p len cap])) (hG:¬S G):(Sp.elm (some x)).holds S (.pointer (some ⟨G,0,none⟩)) W:=by
 obtain ⟨e0,e1,e2,e3,e4⟩:=hb.cells
 exact ⟨x,G,0,k,n,d,s,p,len,cap,rfl,rfl,(zaV hG).trans e0,(zaV hG).trans e1,(zaV hG).trans e2,(zaV hG).trans e3,(zaV hG).trans e4,hx⟩
structure XS (S:Nat→Prop) (b H n:Nat) (w W:World):Prop where
 hS:∀c,S c→c<w.heap.size
 own:S b
 le:w.heap.size≤H
 ht:Turned (fun c=>c=b) w W
 hx:XP W b n
 hE:Env W
 box:Box5 W H 26 (.int .i64 0) (.int .i64 0) (.int .i64 0) (.string ⟨#[]⟩) (.slice none 0 0)
theorem XS.ne {S:Nat→Prop} {b H n:Nat} {w W:World} (h:XS S b H n w W):H≠b:=by
 have h1:=h.hS b h.own
 have h2:=h.le
 omega
theorem XS.lt {S:Nat→Prop} {b H n:Nat} {w W:World} (h:XS S b H n w W):∀c,S1 S H c→c<W.heap.size:=fun c hc=>
 hc.elim (fun hc=>Nat.lt_of_lt_of_le (h.hS c hc) h.ht.size) fun hc=>by subst hc;exact h.box.lt
theorem XS.next {S:Nat→Prop} {b H n m:Nat} {w W W':World} (h:XS S b H n w W) (ht:Turned (fun c=>c=b) W W') (hx:XP W' b m):XS S b H m w W':=
 ⟨h.hS,h.own,h.le,h.ht.next ht,hx,Env.turned h.hE h.hx ht,(ht.block _ h.box.lt h.ne).trans h.box⟩
theorem XS.below {S:Nat→Prop} {b H n:Nat} {w W W':World} (h:XS S b H n w W) (hb:Below W.heap.size W W'):XS S b H n w W':=h.next (Turned.of_below hb) (h.hx.keepB hb)
theorem XS.keep {S:Nat→Prop} {b H n:Nat} {w W W':World} {sp:Sp} {v:Value} (h:XS S b H n w W) (hv:sp.holds (S1 S H) v W) (ht:Turned (fun c=>c=b) W W'):sp.holds (S1 S H) v W':=Sp.turned hv (.inl h.own) ht
theorem XS.bad {S:Nat→Prop} {b H n:Nat} {w W:World} (h:XS S b H n w W):XRes S b none w (.panicked badE) W:=⟨rfl,h.ht⟩
theorem XS.bad' {S:Nat→Prop} {b H n:Nat} {w W W':World} (h:XS S b H n w W) (ht:Turned (fun c=>c=b) W W'):XRes S b none w (.panicked badE) W':=⟨rfl,h.ht.next ht⟩
theorem XS.fin {S:Nat→Prop} {b H m:Nat} {w W:World} {x:Dat} {k n d:Int} {s:ByteArray} {o:Option Addr} {len cap:Nat} (h:XS S b H m w W) (hx:RepD (hide W (S1 S H)) W.heap.size x (.agg #[.int .i64 k,.int .i64 n,.int .i64 d,.string s,.slice o len cap])) :
  XRes S b (some (x,m)) w (.returned (.agg #[.int .i64 k,.int .i64 n,.int .i64 d,.string s,.slice o len cap])) (set5 W H (.int .i64 k) (.int .i64 n) (.int .i64 d) (.string s) (.slice o len cap)):=
 zb1 h.le (h.hS b h.own) h.ht hx h.hx
theorem XS.start {S:Nat→Prop} {b H n:Nat} {w W:World} (h:XS S b H n w W):Shown w S W (S1 S H):=fun c o u hc hu=>by
 have hlt:=zai hu
 refine ⟨fun hs=>hs.elim hc fun hs=>by have:=h.le;omega,(Shown.turned (S:=S) h.ht (fun c _ hc=>by subst hc;exact h.own) c o u hc hu).2⟩
theorem XS.first {S:Nat→Prop} {b H n:Nat} {w W:World} {sp:Sp} {v:Value} (h:XS S b H n w W) (hv:sp.holds S v w):sp.holds (S1 S H) v W:=Sp.shown hv h.start h.ht.size
theorem XS.boxed {S:Nat→Prop} {b H n G:Nat} {w W:World} {x:Dat} {k m d:Int} {s:ByteArray} {o:Option Addr} {len cap:Nat} (h:XS S b H n w W) (hx:RepD (hide w S) w.heap.size x (.agg #[.int .i64 k,.int .i64 m,.int .i64 d,.string s,.slice o len cap])) (hb:Box5 W G 26 (.int .i64 k) (.int .i64 m) (.int .i64 d) (.string s) (.slice o len cap)) (hG:w.heap.size≤G) (hH:G≠H):(Sp.elm (some x)).holds (S1 S H) (.pointer (some ⟨G,0,none⟩)) W:=
 Sp.box hb (hx.shown h.start h.ht.size) fun hs=>hs.elim (fun hs=>by have:=h.hS G hs;omega) hH
theorem zgZ {S:Nat→Prop} {b n:Nat} {w V:World} (hS:∀c,S c→c<w.heap.size) (hb:S b) (hx:XP w b n) (hE:Env w) (hV:Below w.heap.size w V):XS S b V.heap.size n w (V.alloc (.cells #[.int .i64 0,.int .i64 0,.int .i64 0,.string ⟨#[]⟩,.slice none 0 0] 26)):=by
 have h1:Below w.heap.size w (V.alloc (.cells #[.int .i64 0,.int .i64 0,.int .i64 0,.string ⟨#[]⟩,.slice none 0 0] 26)):=hV.trans ((Below.one _ _).mono hV.size)
 exact ⟨hS,hb,hV.size,Turned.of_below h1,hx.keep h1,hE.below h1,Box5.new _ _ _ _ _ _ _⟩
theorem zfr {S:Nat→Prop} {b n:Nat} {w:World} (hS:∀c,S c→c<w.heap.size) (hb:S b) (hx:XP w b n) (hE:Env w):XS S b w.heap.size n w (w.alloc (.cells #[.int .i64 0,.int .i64 0,.int .i64 0,.string ⟨#[]⟩,.slice none 0 0] 26)):=by
 exact zgZ hS hb hx hE (Below.refl _ _)
theorem zhQ {S:Nat→Prop} {b n:Nat} {w:World} {x1:Dat} {k1 m1 d1:Int} {s1:ByteArray} {o1:Option Addr} {len1 cap1:Nat} (hS:∀c,S c→c<w.heap.size) (hb:S b) (hx:XP w b n) (hE:Env w) (hx1:RepD (hide w S) w.heap.size x1 (.agg #[.int .i64 k1,.int .i64 m1,.int .i64 d1,.string s1,.slice o1 len1 cap1])):XS S b (w.heap.size+1) n w ((w.alloc (.cells #[.int .i64 k1,.int .i64 m1,.int .i64 d1,.string s1,.slice o1 len1 cap1] 26)).alloc (.cells #[.int .i64 0,.int .i64 0,.int .i64 0,.string ⟨#[]⟩,.slice none 0 0] 26))∧(Sp.elm (some x1)).holds (S1 S (w.heap.size+1)) (.pointer (some ⟨w.heap.size,0,none⟩)) ((w.alloc (.cells #[.int .i64 k1,.int .i64 m1,.int .i64 d1,.string s1,.slice o1 len1 cap1] 26)).alloc (.cells #[.int .i64 0,.int .i64 0,.int .i64 0,.string ⟨#[]⟩,.slice none 0 0] 26)):=by
 obtain ⟨V1,hV1⟩:∃V1,w.alloc (.cells #[.int .i64 k1,.int .i64 m1,.int .i64 d1,.string s1,.slice o1 len1 cap1] 26)=V1:=⟨_,rfl⟩
 have z1:V1.heap.size=w.heap.size+1:=by rw[←hV1,World.size_alloc]
 have c1:Below w.heap.size w V1:=by rw[←hV1];exact Below.one _ _
 have n1:Box5 V1 w.heap.size 26 (.int .i64 k1) (.int .i64 m1) (.int .i64 d1) (.string s1) (.slice o1 len1 cap1):=by have h:=Box5.new w 26 (.int .i64 k1) (.int .i64 m1) (.int .i64 d1) (.string s1) (.slice o1 len1 cap1);rw[hV1] at h;exact h
 rw[hV1]
 have hbl:Below w.heap.size w V1:=c1
 have hst:=zgZ hS hb hx hE hbl
 rw[z1] at hst
 have hone:Below V1.heap.size V1 (V1.alloc (.cells #[.int .i64 0,.int .i64 0,.int .i64 0,.string ⟨#[]⟩,.slice none 0 0] 26)):=Below.one _ _
 exact ⟨hst,hst.boxed hx1 ((hone.block _ (by omega)).trans (n1)) (by omega) (by omega)⟩
theorem zkP {S:Nat→Prop} {b n:Nat} {w:World} {x1:Dat} {k1 m1 d1:Int} {s1:ByteArray} {o1:Option Addr} {len1 cap1:Nat} {x2:Dat} {k2 m2 d2:Int} {s2:ByteArray} {o2:Option Addr} {len2 cap2:Nat} (hS:∀c,S c→c<w.heap.size) (hb:S b) (hx:XP w b n) (hE:Env w) (hx1:RepD (hide w S) w.heap.size x1 (.agg #[.int .i64 k1,.int .i64 m1,.int .i64 d1,.string s1,.slice o1 len1 cap1])) (hx2:RepD (hide w S) w.heap.size x2 (.agg #[.int .i64 k2,.int .i64 m2,.int .i64 d2,.string s2,.slice o2 len2 cap2])):XS S b (w.heap.size+2) n w (((w.alloc (.cells #[.int .i64 k1,.int .i64 m1,.int .i64 d1,.string s1,.slice o1 len1 cap1] 26)).alloc (.cells #[.int .i64 k2,.int .i64 m2,.int .i64 d2,.string s2,.slice o2 len2 cap2] 26)).alloc (.cells #[.int .i64 0,.int .i64 0,.int .i64 0,.string ⟨#[]⟩,.slice none 0 0] 26))∧(Sp.elm (some x1)).holds (S1 S (w.heap.size+2)) (.pointer (some ⟨w.heap.size,0,none⟩)) (((w.alloc (.cells #[.int .i64 k1,.int .i64 m1,.int .i64 d1,.string s1,.slice o1 len1 cap1] 26)).alloc (.cells #[.int .i64 k2,.int .i64 m2,.int .i64 d2,.string s2,.slice o2 len2 cap2] 26)).alloc (.cells #[.int .i64 0,.int .i64 0,.int .i64 0,.string ⟨#[]⟩,.slice none 0 0] 26))∧(Sp.elm (some x2)).holds (S1 S (w.heap.size+2)) (.pointer (some ⟨w.heap.size+1,0,none⟩)) (((w.alloc (.cells #[.int .i64 k1,.int .i64 m1,.int .i64 d1,.string s1,.slice o1 len1 cap1] 26)).alloc (.cells #[.int .i64 k2,.int .i64 m2,.int .i64 d2,.string s2,.slice o2 len2 cap2] 26)).alloc (.cells #[.int .i64 0,.int .i64 0,.int .i64 0,.string ⟨#[]⟩,.slice none 0 0] 26)):=by
 obtain ⟨V1,hV1⟩:∃V1,w.alloc (.cells #[.int .i64 k1,.int .i64 m1,.int .i64 d1,.string s1,.slice o1 len1 cap1] 26)=V1:=⟨_,rfl⟩
 have z1:V1.heap.size=w.heap.size+1:=by rw[←hV1,World.size_alloc]
 have c1:Below w.heap.size w V1:=by rw[←hV1];exact Below.one _ _
 have n1:Box5 V1 w.heap.size 26 (.int .i64 k1) (.int .i64 m1) (.int .i64 d1) (.string s1) (.slice o1 len1 cap1):=by have h:=Box5.new w 26 (.int .i64 k1) (.int .i64 m1) (.int .i64 d1) (.string s1) (.slice o1 len1 cap1);rw[hV1] at h;exact h
 obtain ⟨V2,hV2⟩:∃V2,V1.alloc (.cells #[.int .i64 k2,.int .i64 m2,.int .i64 d2,.string s2,.slice o2 len2 cap2] 26)=V2:=⟨_,rfl⟩
 have z2:V2.heap.size=w.heap.size+2:=by rw[←hV2,World.size_alloc];rw[z1]
 have c2:Below V1.heap.size V1 V2:=by rw[←hV2];exact Below.one _ _
 have n2:Box5 V2 (w.heap.size+1) 26 (.int .i64 k2) (.int .i64 m2) (.int .i64 d2) (.string s2) (.slice o2 len2 cap2):=by have h:=Box5.new V1 26 (.int .i64 k2) (.int .i64 m2) (.int .i64 d2) (.string s2) (.slice o2 len2 cap2);rw[hV2,z1] at h;exact h
 rw[hV1,hV2]
 have hbl:Below w.heap.size w V2:=(c1.trans (c2.mono (by omega)))
 have hst:=zgZ hS hb hx hE hbl
 rw[z2] at hst
 have hone:Below V2.heap.size V2 (V2.alloc (.cells #[.int .i64 0,.int .i64 0,.int .i64 0,.string ⟨#[]⟩,.slice none 0 0] 26)):=Below.one _ _
 exact ⟨hst,hst.boxed hx1 ((hone.block _ (by omega)).trans ((c2.block _ (by omega)).trans (n1))) (by omega) (by omega),hst.boxed hx2 ((hone.block _ (by omega)).trans (n2)) (by omega) (by omega)⟩
def SpK (S:Nat→Prop) (sp:Sp) (o:Oper) (a:Act) (w:World) (a':Act) (w':World):Prop:=∃v,a'=a.put o.dst v∧sp.holds S v w'∧Below w.heap.size w w'
def SpX (S:Nat→Prop) (b m:Nat) (sp:Sp) (o:Oper) (a:Act) (w:World) (a':Act) (w':World):Prop:=∃v,a'=a.put o.dst v∧sp.holds S v w'∧Turned (fun c=>c=b) w w'∧XP w' b m
def cnt {α:Type}:Option (α × Nat)→Nat
 | some p=>p.2
 | none=>0
section
variable {S : Nat → Prop} {o : Oper} {a : Act} {w : World} {Q : Exit → Act → World → Prop}
theorem zbZ {sp:Sp} {v:Value} {w':World} (h:(execOp a.eval o).run prog w=.ok (.value v) w') (hv:sp.holds S v w') (hb:Below w.heap.size w w'):o.wp prog a w (SpK S sp o a w) Q:=by
 unfold Oper.wp
 rw[h]
 exact ⟨v,rfl,hv,hb⟩
theorem zab {sp:Sp} {s:Nat} (ho:o.op=.move (.tmp s)) (h:sp.holds S (a.tmps.getD s undef) w):o.wp prog a w (SpK S sp o a w) Q:=
 zbZ (v:=a.tmps.getD s undef) (w':=w) (by unfold execOp;rw[ho];rfl) h (Below.refl _ _)
theorem zak {o1:Option Dat} {s:Nat} (ho:o.op=.load 26 (.tmp s)) (h:(Sp.elm o1).holds S (a.tmps.getD s undef) w):o.wp prog a w (SpK S (.dat o1) o a w) Q:=by
 obtain ⟨x,c,off,k,n,d,st,p,len,cap,hx,hs,e0,e1,e2,e3,e4,hr⟩:=h
 replace e0:=(zac e0).2
 replace e1:=(zac e1).2
 replace e2:=(zac e2).2
 replace e3:=(zac e3).2
 replace e4:=(zac e4).2
 have el:=zai e0
 refine zbZ (v:=.agg #[.int .i64 k,.int .i64 n,.int .i64 d,.string st,.slice p len cap]) (w':=w) ?_ ⟨x,hx,hr⟩ (Below.refl _ _)
 have hev:a.eval (.tmp s)=.pointer (some ⟨c,off,none⟩):=hs
 clear hr hx
 unfold execOp
 rw[ho]
 simp only[hev]
 clear hev hs ho
 go_simp
theorem zar {l:List Dat} {x:Dat} {s k:Nat} (ho:o.op=.indexAddr 22 (.tmp s) (.const (.int .i64 (k:Int)))) (h:(Sp.row (some l)).holds S (a.tmps.getD s undef) w) (hx:l[k]?=some x) (hk:k<1000):o.wp prog a w (SpK S (.elm (some x)) o a w) Q:=by
 obtain ⟨l',hl',hr⟩:=h
 obtain rfl:=Option.some.inj hl'
 obtain ⟨p,len,cap,hs,hlen,hcap,hmax,hc⟩:=hr
 obtain ⟨c,off,k1,n1,d1,s1,l1,o1,len1,cap1,ho1,hx1,e0,e1,e2,e3,e4,er⟩:=zay hc (Below.refl _ _) hx
 subst ho1
 have hlt:k<len:=by rw[hlen];exact (List.getElem?_eq_some_iff.1 hx).1
 refine zbZ (v:=.pointer (some ⟨c,off+k*5,none⟩)) (w':=w) ?_ ⟨x,c,off+k*5,k1,n1,d1,s1,o1,len1,cap1,rfl,rfl,e0,e1,e2,e3,e4,by rw[hx1];exact er⟩ (Below.refl _ _)
 have hev:a.eval (.tmp s)=.slice (some ⟨c,off,none⟩) len cap:=hs
 have hev2:a.eval (.const (.int .i64 (k:Int)))=.int .i64 k:=rfl
 have h0:¬((k:Int)<0):=by omega
 have h1:((k:Int)<(len:Int)):=by omega
 have h2:¬((len:Int)≤(k:Int)):=by omega
 have h3:(k:Int).toNat=k:=by omega
 clear er e0 e1 e2 e3 e4 hx1 hc hx hlen hs
 unfold execOp
 rw[ho]
 simp only[hev,hev2]
 clear hev hev2 ho
 go_simp
theorem zkv {x:Dat} {s:Nat} (ho:o.op=.fieldAddr 26 (.tmp s) 4) (h:(Sp.elm (some x)).holds S (a.tmps.getD s undef) w):o.wp prog a w (SpK S (.sla (some x.l)) o a w) Q:=by
 obtain ⟨y,c,off,k,n,d,st,p,len,cap,hx,hs,e0,e1,e2,e3,e4,hr⟩:=h
 obtain rfl:=Option.some.inj hx
 obtain ⟨k1,n1,d1,s1,l1⟩:=x
 obtain ⟨sl,hv,_,_,_,_,hrs⟩:=hr.open
 simp only[Value.agg.injEq,Array.mk.injEq,List.cons.injEq] at hv
 obtain ⟨_,_,_,_,rfl,_⟩:=hv
 refine zbZ (v:=.pointer (some ⟨c,off+4,none⟩)) (w':=w) ?_ ⟨_,c,off+4,_,rfl,rfl,e4,hrs⟩ (Below.refl _ _)
 have hev:a.eval (.tmp s)=.pointer (some ⟨c,off,none⟩):=hs
 clear hr hx hrs e0 e1 e2 e3 e4
 unfold execOp
 rw[ho]
 simp only[hev]
 clear hev hs ho
 go_simp
theorem zeV {x:Dat} {l:List Dat} {s:Nat} (hl:x.l=l) (ho:o.op=.fieldAddr 26 (.tmp s) 4) (h:(Sp.elm (some x)).holds S (a.tmps.getD s undef) w):o.wp prog a w (SpK S (.sla (some l)) o a w) Q:=by
 subst hl
 exact zkv ho h
theorem zjP {x:Dat} {s:Nat} (ho:o.op=.fieldAddr 26 (.tmp s) 3) (h:(Sp.elm (some x)).holds S (a.tmps.getD s undef) w):o.wp prog a w (SpK S (.stp x.s) o a w) Q:=by
 obtain ⟨y,c,off,k,n,d,st,p,len,cap,hx,hs,e0,e1,e2,e3,e4,hr⟩:=h
 obtain rfl:=Option.some.inj hx
 obtain ⟨k1,n1,d1,s1,l1⟩:=x
 obtain ⟨sl,hv,_,_,_,_,hrs⟩:=hr.open
 simp only[Value.agg.injEq,Array.mk.injEq,List.cons.injEq,Value.string.injEq] at hv
 obtain ⟨_,_,_,rfl,_,_⟩:=hv
 refine zbZ (v:=.pointer (some ⟨c,off+3,none⟩)) (w':=w) ?_ ⟨c,off+3,rfl,e3⟩ (Below.refl _ _)
 have hev:a.eval (.tmp s)=.pointer (some ⟨c,off,none⟩):=hs
 clear hr hx hrs e0 e1 e2 e3 e4
 unfold execOp
 rw[ho]
 simp only[hev]
 clear hev hs ho
 go_simp
theorem zhW {o1:Option (List Dat)} {s:Nat} (ho:o.op=.load 22 (.tmp s)) (h:(Sp.sla o1).holds S (a.tmps.getD s undef) w):o.wp prog a w (SpK S (.row o1) o a w) Q:=by
 obtain ⟨l,c,off,u,hx,hs,e0,hr⟩:=h
 obtain ⟨p,len,cap,hu,hln,hcp,hmx,hc⟩:=id hr
 subst hu
 replace e0:=(zac e0).2
 have el:=zai e0
 refine zbZ (v:=.slice p len cap) (w':=w) ?_ ⟨l,hx,hr⟩ (Below.refl _ _)
 have hev:a.eval (.tmp s)=.pointer (some ⟨c,off,none⟩):=hs
 clear hr hx hc hln hcp hmx
 unfold execOp
 rw[ho]
 simp only[hev]
 clear hev hs ho
 go_simp
theorem zlf {st:ByteArray} {s:Nat} (ho:o.op=.load 9 (.tmp s)) (h:(Sp.stp st).holds S (a.tmps.getD s undef) w):o.wp prog a w (SpK S (.val (.string st)) o a w) Q:=by
 obtain ⟨c,off,hs,e0⟩:=h
 replace e0:=(zac e0).2
 have el:=zai e0
 refine zbZ (v:=.string st) (w':=w) ?_ rfl (Below.refl _ _)
 have hev:a.eval (.tmp s)=.pointer (some ⟨c,off,none⟩):=hs
 unfold execOp
 rw[ho]
 simp only[hev]
 clear hev hs ho
 go_simp
theorem zet {W:World} {B b:Nat}:∀(k:Nat) (l:List Dat) (off:Nat),RepC W B l b off→RepC W B (l.drop k) b (off+k*5)
 | 0,l,off,h=>by simpa using h
 | k+1,[],off,_=>by rw[List.drop_nil];trivial
 | k+1,x::l,off,h=>by
  rw[RepC] at h
  have:=zet k l (off+5) h.2
  rw[List.drop_succ_cons,show off+(k+1)*5=off+5+k*5 by omega]
  exact this
theorem zfP {W:World} {B k:Nat} {l:List Dat} {v:Value} (hr:RepS W B l v) (hk0:0<k) (hk:k≤l.length) (hk1:k<1000):∃q,RepS W B (l.drop k) q∧∀(o:Oper) (a:Act) (w:World) (s:Nat),o.op=.slice 22 (.tmp s) (some (.const (.int .i64 (k:Int)))) none none→a.tmps.getD s undef=v→(execOp a.eval o).run prog w=.ok (.value q) w:=by
 obtain ⟨p,len,cap,rfl,hlen,hcap,hmax,hc⟩:=hr
 match p,hc with
 | none,hc=>
  exfalso
  have:=hc.1
  subst this
  simp at hk
  omega
 | some ad,hc=>
 have hlk:k≤len:=by rw[hlen];exact hk
 have hne:l≠[]:=by rintro rfl;simp at hk;omega
 obtain ⟨blk,off,spt⟩:=ad
 obtain rfl:spt=none:=(hc.1 hne).1
 have hrep:∃q,(if cap=k then some (⟨blk,off,none⟩:Addr) else some (⟨blk,off+k*5,none⟩:Addr))=some q∧RepS W B (l.drop k) (.slice (some q) (len-k) (cap-k)):=by
  by_cases hck:cap=k
  ·rw[if_pos hck]
   refine ⟨_,rfl,_,_,_,rfl,by rw[List.length_drop,hlen],by omega,by omega,?_⟩
   have hnil:l.drop k=[]:=List.drop_eq_nil_of_le (by omega)
   rw[hnil]
   exact ⟨fun h=>absurd rfl h,trivial⟩
  ·rw[if_neg hck]
   refine ⟨_,rfl,_,_,_,rfl,by rw[List.length_drop,hlen],by omega,by omega,?_⟩
   have hc2:=zet k l _ hc.2
   exact ⟨fun _=>⟨rfl,(hc.1 hne).2⟩,hc2⟩
 obtain ⟨q,hq,hrep⟩:=hrep
 refine ⟨_,hrep,fun o a w s ho hs=>?_⟩
 have hev:a.eval (.tmp s)=.slice (some ⟨blk,off,none⟩) len cap:=hs
 have hev2:a.eval (.const (.int .i64 (k:Int)))=.int .i64 k:=rfl
 have h0:¬((k:Int)<0):=by omega
 have h1:((k:Int)≤(len:Int)):=by omega
 have h2:¬((len:Int)<(k:Int)):=by omega
 have h3:(k:Int).toNat=k:=by omega
 have h4:¬(cap<len):=by omega
 have h5:¬(len<k):=by omega
 clear hrep hc hlen hs hmax hk hne
 unfold execOp
 rw[ho]
 simp only[hev,hev2,Option.map_some,Option.map_none]
 clear hev hev2 ho
 go_simp
 try exact hq
theorem zaz {l:List Dat} {s k:Nat} (ho:o.op=.slice 22 (.tmp s) (some (.const (.int .i64 (k:Int)))) none none) (h:(Sp.row (some l)).holds S (a.tmps.getD s undef) w) (hk0:0<k) (hk:k≤l.length) (hk1:k<1000):o.wp prog a w (SpK S (.row (some (l.drop k))) o a w) Q:=by
 obtain ⟨q,h1,h2⟩:=zfP (Sp.data h) hk0 hk hk1
 exact zbZ (h2 o a w s ho rfl) ⟨_,rfl,h1⟩ (Below.refl _ _)
theorem zmq {o1:Option Dat} {s:Nat} (ho:o.op=.buildSlice 22 1 #[(0,.tmp s)]) (h:(Sp.dat o1).holds S (a.tmps.getD s undef) w) (hS:∀c,S c→c<w.heap.size):o.wp prog a w (SpK S (.one o1) o a w) Q:=by
 obtain ⟨x,hx,hr⟩:=h
 obtain ⟨k,n,d,st,p,len,cap,hv⟩:=zae hr.unhide
 rw[hv] at hr
 exact zbZ (zei ho hv) ⟨x,_,hx,rfl,zaA hS hr⟩ (Below.one _ _)
theorem zdx {o1 o2:Option Dat} {s t:Nat} (ho:o.op=.buildSlice 22 2 #[(0,.tmp s),(1,.tmp t)]) (h1:(Sp.dat o1).holds S (a.tmps.getD s undef) w) (h2:(Sp.dat o2).holds S (a.tmps.getD t undef) w) (hS:∀c,S c→c<w.heap.size):o.wp prog a w (SpK S (.row (o1.bind fun x=>o2.bind fun y=>some [x,y])) o a w) Q:=by
 obtain ⟨x,rfl,hr⟩:=h1
 obtain ⟨k,n,d,st,p,len,cap,hv⟩:=zae hr.unhide
 rw[hv] at hr
 obtain ⟨y,rfl,hr2⟩:=h2
 obtain ⟨k2,n2,d2,st2,p2,len2,cap2,hv2⟩:=zae hr2.unhide
 rw[hv2] at hr2
 exact zbZ (zcH ho hv hv2) ⟨_,rfl,zbs (W:=w) (n:=2) (cs:=[.int .i64 k,.int .i64 n,.int .i64 d,.string st,.slice p len cap,.int .i64 k2,.int .i64 n2,.int .i64 d2,.string st2,.slice p2 len2 cap2]) rfl (by omega) hS ⟨_,_,_,_,_,_,rfl,hr,_,_,_,_,_,_,rfl,hr2,rfl⟩⟩ (Below.one _ _)
theorem zjj (w:World) (k n d k' n' d' k2 n2 d2:Int) (s s' s2:ByteArray) (o o' o2:Option Addr) (l c l' c' l2 c2:Nat):(Instr.buildSlice 22 3 #[(0,.agg #[.int .i64 k,.int .i64 n,.int .i64 d,.string s,.slice o l c]),(1,.agg #[.int .i64 k',.int .i64 n',.int .i64 d',.string s',.slice o' l' c']),(2,.agg #[.int .i64 k2,.int .i64 n2,.int .i64 d2,.string s2,.slice o2 l2 c2])]).run prog w=.ok (.slice (some ⟨w.heap.size,0,none⟩) 3 3) (w.alloc (.cells #[.int .i64 k,.int .i64 n,.int .i64 d,.string s,.slice o l c,.int .i64 k',.int .i64 n',.int .i64 d',.string s',.slice o' l' c',.int .i64 k2,.int .i64 n2,.int .i64 d2,.string s2,.slice o2 l2 c2] 26)):=by go_simp
theorem zbY {o1 o2 o3:Option Dat} {s t u:Nat} (ho:o.op=.buildSlice 22 3 #[(0,.tmp s),(1,.tmp t),(2,.tmp u)]) (h1:(Sp.dat o1).holds S (a.tmps.getD s undef) w) (h2:(Sp.dat o2).holds S (a.tmps.getD t undef) w) (h3:(Sp.dat o3).holds S (a.tmps.getD u undef) w) (hS:∀c,S c→c<w.heap.size):o.wp prog a w (SpK S (.row (o1.bind fun x=>o2.bind fun y=>o3.bind fun z=>some [x,y,z])) o a w) Q:=by
 obtain ⟨x,rfl,hr⟩:=h1
 obtain ⟨k,n,d,st,p,len,cap,hv⟩:=zae hr.unhide
 rw[hv] at hr
 obtain ⟨y,rfl,hr2⟩:=h2
 obtain ⟨k2,n2,d2,st2,p2,len2,cap2,hv2⟩:=zae hr2.unhide
 rw[hv2] at hr2
 obtain ⟨z,rfl,hr3⟩:=h3
 obtain ⟨k3,n3,d3,st3,p3,len3,cap3,hv3⟩:=zae hr3.unhide
 rw[hv3] at hr3
 have hrun:(execOp a.eval o).run prog w=.ok (.value (.slice (some ⟨w.heap.size,0,none⟩) 3 3)) (w.alloc (.cells #[.int .i64 k,.int .i64 n,.int .i64 d,.string st,.slice p len cap,.int .i64 k2,.int .i64 n2,.int .i64 d2,.string st2,.slice p2 len2 cap2,.int .i64 k3,.int .i64 n3,.int .i64 d3,.string st3,.slice p3 len3 cap3] 26)):=by
  have hmap:(#[(0,Operand.tmp s),(1,Operand.tmp t),(2,Operand.tmp u)]:Array (Nat × Operand)).map (fun (i,x)=>(i,a.eval x))=#[(0,.agg #[.int .i64 k,.int .i64 n,.int .i64 d,.string st,.slice p len cap]),(1,.agg #[.int .i64 k2,.int .i64 n2,.int .i64 d2,.string st2,.slice p2 len2 cap2]),(2,.agg #[.int .i64 k3,.int .i64 n3,.int .i64 d3,.string st3,.slice p3 len3 cap3])]:=by
   simp only[List.map_toArray,List.map_cons,List.map_nil]
   rw[←hv,←hv2,←hv3];rfl
  unfold execOp
  rw[ho]
  show (do let r ←Instr.buildSlice 22 3 ((#[(0,Operand.tmp s),(1,Operand.tmp t),(2,Operand.tmp u)]:Array (Nat × Operand)).map (fun (i,x)=>(i,a.eval x)));pure (Next.value r):Sem Next).run prog w=_
  rw[hmap]
  simp only[Sem.run_bind,Sem.run_pure,zjj,Result.andThen_ok]
 exact zbZ hrun ⟨_,rfl,zbs (W:=w) (n:=3) (cs:=[.int .i64 k,.int .i64 n,.int .i64 d,.string st,.slice p len cap,.int .i64 k2,.int .i64 n2,.int .i64 d2,.string st2,.slice p2 len2 cap2,.int .i64 k3,.int .i64 n3,.int .i64 d3,.string st3,.slice p3 len3 cap3]) rfl (by omega) hS ⟨_,_,_,_,_,_,rfl,hr,_,_,_,_,_,_,rfl,hr2,_,_,_,_,_,_,rfl,hr3,rfl⟩⟩ (Below.one _ _)
theorem zcF {f:FuncId} {args:Array Operand} {ts:Array TypeId} {vals:Array Value} {o1:Option Dat} {x:Dat} (ho:o.op=.call { callee:=.value (.func f),args:=args,argTypes:=ts }) (hv:args.map a.eval=vals) (hf:∀args w,(callFunc f args).run prog w=.ok (.enter f args) w) (hc:Calls prog f vals w (DatPostH S x w)) (hx:o1=some x):o.wp prog a w (SpK S (.dat o1) o a w) Q:=by
 refine zba ho hv hf hc ?_
 rintro e w' ⟨v,rfl,h1,h2⟩
 exact .inl ⟨v,rfl,v,rfl,⟨x,hx,h1⟩,h2⟩
theorem zb3 {o1:Option (List Dat)} {s:Nat} {ts:Array TypeId} (ho:o.op=.call { callee:=.value (.func 87),args:=#[.tmp s],argTypes:=ts }) (h:(Sp.row o1).holds S (a.tmps.getD s undef) w) (hS:∀c,S c→c<w.heap.size):o.wp prog a w (SpK S (.dat (o1.map Dat.list)) o a w) Q:=by
 obtain ⟨l,rfl,hr⟩:=h
 exact zcF ho (vals:=#[a.tmps.getD s undef]) (by simp only[List.map_toArray,List.map_cons,List.map_nil];rfl) (fun _ _=>rfl) (zaR S l _ _ w hS hr (Nat.le_refl _)) rfl
theorem za6 {o1:Option (List Dat)} {key:ByteArray} {s:Nat} {ts:Array TypeId} (ho:o.op=.call { callee:=.value (.func 52),args:=#[.const (.string key),.tmp s],argTypes:=ts }) (h:(Sp.row o1).holds S (a.tmps.getD s undef) w) (hk:key.size≤140737488351232) (hl:∀l,o1=some l→l.length≤999999) (hS:∀c,S c→c<w.heap.size):o.wp prog a w (SpK S (.dat (o1.map (Sy.form key))) o a w) Q:=by
 obtain ⟨l,rfl,hr⟩:=h
 exact zcF ho (vals:=#[.string key,a.tmps.getD s undef]) (by simp only[List.map_toArray,List.map_cons,List.map_nil];rfl) (fun _ _=>rfl) (zbD S key hk l _ _ w hS hr (Nat.le_refl _) (hl l rfl)) rfl
theorem zhM {o1:Option (List Dat)} {key:ByteArray} {s t:Nat} {ts:Array TypeId} (ho:o.op=.call { callee:=.value (.func 52),args:=#[.tmp t,.tmp s],argTypes:=ts }) (hkv:(Sp.val (.string key)).holds S (a.tmps.getD t undef) w) (h:(Sp.row o1).holds S (a.tmps.getD s undef) w) (hk:key.size≤140737488351232) (hl:∀l,o1=some l→l.length≤999999) (hS:∀c,S c→c<w.heap.size):o.wp prog a w (SpK S (.dat (o1.map (Sy.form key))) o a w) Q:=by
 obtain ⟨l,rfl,hr⟩:=h
 exact zcF ho (vals:=#[.string key,a.tmps.getD s undef]) (by simp only[List.map_toArray,List.map_cons,List.map_nil];rw[←show a.tmps.getD t undef=.string key from hkv];rfl) (fun _ _=>rfl) (zbD S key hk l _ _ w hS hr (Nat.le_refl _) (hl l rfl)) rfl
theorem zcT {l m:List Dat} {s t:Nat} {ts:Array TypeId} (ho:o.op=.call { callee:=.value (.func 53),args:=#[.tmp s,.tmp t],argTypes:=ts }) (h1:(Sp.row (some l)).holds S (a.tmps.getD s undef) w) (h2:(Sp.row (some m)).holds S (a.tmps.getD t undef) w) (hlen:l.length=m.length) (hl:l.length≤100000) (hS:∀c,S c→c<w.heap.size):o.wp prog a w (SpK S (.dat (some (Sy.pairs l m))) o a w) Q:=
 zcF ho (vals:=#[a.tmps.getD s undef,a.tmps.getD t undef]) (by simp only[List.map_toArray,List.map_cons,List.map_nil];rfl) (fun _ _=>rfl) (zii S l m _ _ _ w hS (Sp.data h1) (Sp.data h2) (Nat.le_refl _) hlen hl) rfl
theorem zfn {o1:Option Dat} {s:Nat} {ts:Array TypeId} (ho:o.op=.call { callee:=.value (.func 89),args:=#[.tmp s],argTypes:=ts }) (h:(Sp.dat o1).holds S (a.tmps.getD s undef) w) (hS:∀c,S c→c<w.heap.size):o.wp prog a w (SpK S (.dat (o1.map Sy.const)) o a w) Q:=by
 obtain ⟨x,rfl,hr⟩:=h
 exact zcF ho (vals:=#[a.tmps.getD s undef]) (by simp only[List.map_toArray,List.map_cons,List.map_nil];rfl) (fun _ _=>rfl) (zc8 S x _ _ w hS hr (Nat.le_refl _)) rfl
theorem zdG {n:Int} {ts:Array TypeId} (ho:o.op=.call { callee:=.value (.func 146),args:=#[.const (.int .i64 n)],argTypes:=ts }) (hn:-9223372036854775808≤n∧n≤9223372036854775807) (hS:∀c,S c→c<w.heap.size):o.wp prog a w (SpK S (.dat (some (Sy.truth n))) o a w) Q:=
 zcF ho (vals:=#[.int .i64 n]) (by simp only[List.map_toArray,List.map_cons,List.map_nil];rfl) (fun _ _=>rfl) (zeO S n hn w hS) rfl
theorem zdS {ts:Array TypeId} (ho:o.op=.call { callee:=.value (.func 106),args:=#[],argTypes:=ts }) (hS:∀c,S c→c<w.heap.size):o.wp prog a w (SpK S (.dat (some Sy.void)) o a w) Q:=
 zcF ho (vals:=#[]) (by simp only[List.map_toArray,List.map_nil]) (fun _ _=>rfl) (zgu S w hS) rfl
theorem zme {key:ByteArray} {ts:Array TypeId} (ho:o.op=.call { callee:=.value (.func 90),args:=#[.const (.string key)],argTypes:=ts }) (hk:key.size≤140737488351232):o.wp prog a w (SpK S (.dat (some (Sy.sym key))) o a w) Q:=by
 refine zba (vals:=#[.string key]) ho (by simp only[List.map_toArray,List.map_cons,List.map_nil];rfl) (fun _ _=>rfl) (zdY key w) ?_
 rintro e w' ⟨rfl,h2⟩
 exact .inl ⟨_,rfl,_,rfl,⟨_,rfl,zg8 _ hk⟩,h2⟩
theorem zjK {o1:Option Dat} {o2:Option (List Dat)} {s t:Nat} (ho:o.op=.call { callee:=.builtin .append,args:=#[.tmp s,.tmp t],argTypes:=#[22,22] }) (h1:(Sp.one o1).holds S (a.tmps.getD s undef) w) (h2:(Sp.row o2).holds S (a.tmps.getD t undef) w) (hl:∀l,o2=some l→l.length≤999999) (hS:∀c,S c→c<w.heap.size):o.wp prog a w (SpK S (.row (o1.bind fun x=>o2.bind fun l=>some (x::l))) o a w) Q:=by
 obtain ⟨x,p,rfl,hv,hr⟩:=h1
 obtain ⟨l,rfl,hr2⟩:=h2
 rw[hv] at hr
 refine Oper.wp_mono ?_ (zd6 (S:=S) (.tmp s) (.tmp t) ho x l p _ hv rfl hr hr2 hS (hl l rfl))
 rintro a' w' ⟨v,rfl,h3,h4⟩
 exact ⟨v,rfl,⟨_,rfl,h3⟩,h4⟩
theorem zaE {f:FuncId} {args:Array Operand} {ts:Array TypeId} {vals:Array Value} {b:Nat} {p:Option (Dat × Nat)} (ho:o.op=.call { callee:=.value (.func f),args:=args,argTypes:=ts }) (hv:args.map a.eval=vals) (hf:∀args w,(callFunc f args).run prog w=.ok (.enter f args) w) (hc:Calls prog f vals w (XRes S b p w)) (hbad:p=none→∀w',Turned (fun c=>c=b) w w'→Q (.panic badE) a w'):o.wp prog a w (SpX S b (cnt p) (.dat (p.map (·.1))) o a w) Q:=by
 refine zba ho hv hf hc ?_
 intro e w' he
 match p,he,hbad with
 | none,he,hbad=>
  obtain ⟨rfl,ht⟩:=he
  exact .inr ⟨_,rfl,hbad rfl _ ht⟩
 | some (y,m),he,_=>
  obtain ⟨v,rfl,h1,h2,h3⟩:=he
  exact .inl ⟨v,rfl,v,rfl,⟨y,rfl,h1⟩,h2,h3⟩
theorem zhZ {f:FuncId} {args:Array Operand} {ts:Array TypeId} {vals:Array Value} {b:Nat} {p:Option (List Dat × Nat)} (ho:o.op=.call { callee:=.value (.func f),args:=args,argTypes:=ts }) (hv:args.map a.eval=vals) (hf:∀args w,(callFunc f args).run prog w=.ok (.enter f args) w) (hc:Calls prog f vals w (XAll S b p w)) (hbad:p=none→∀w',Turned (fun c=>c=b) w w'→Q (.panic badE) a w'):o.wp prog a w (SpX S b (cnt p) (.row (p.map (·.1))) o a w) Q:=by
 refine zba ho hv hf hc ?_
 intro e w' he
 match p,he,hbad with
 | none,he,hbad=>
  obtain ⟨rfl,ht⟩:=he
  exact .inr ⟨_,rfl,hbad rfl _ ht⟩
 | some (y,m),he,_=>
  obtain ⟨v,rfl,h1,h2,h3⟩:=he
  exact .inl ⟨v,rfl,v,rfl,⟨y,rfl,h1.rep⟩,h2,h3⟩
end
theorem rowlen2 {o1 o2:Option Dat}:∀l,(o1.bind fun x=>o2.bind fun y=>some [x,y])=some l→l.length≤999999:=fun l h=>by
 cases o1 with
 | none=>cases h
 | some x=>cases o2 with
  | none=>cases h
  | some y=>obtain rfl:=Option.some.inj h;simp
theorem rowlen3 {o1 o2 o3:Option Dat}:∀l,(o1.bind fun x=>o2.bind fun y=>o3.bind fun z=>some [x,y,z])=some l→l.length≤999999:=fun l h=>by
 cases o1 with
 | none=>cases h
 | some x=>cases o2 with
  | none=>cases h
  | some y=>cases o3 with
   | none=>cases h
   | some z=>obtain rfl:=Option.some.inj h;simp
theorem zhl {ops:Array Oper} (h:backB .any ops=true) {i:Nat} {o:Oper} (ho:ops[i]?=some o) {e:Edge} (he:e∈o.after) (hb:Region.binds .any e=true):e.on<i:=by
 have h1:=List.all_eq_true.1 h i (List.mem_range.2 (Array.getElem?_eq_some_iff.1 ho).1)
 rw[ho] at h1
 simp only[Option.map_some,Option.getD_some] at h1
 have h2:=Array.all_eq_true_iff_forall_mem.1 h1 e he
 simpa[hb] using h2
def reachB (ops:Array Oper):Nat→Nat→Nat→Bool
 | 0,p,q=>decide (p=q)
 | g+1,p,q=>decide (p=q) || (match ops[q]? with | some o=>o.after.any fun e=>Region.binds .any e&&reachB ops g p e.on | none=>false)
theorem zg7 {P:Program} {id:Nat} {Q:Exit→Act→World→Prop} {a0:Act} {w:World} {l:List Oper} {b:Nat} (n:Nat) (ps:List Nat) (ns:Nat→Nat) (R:Nat→Value→World→Prop) (hm:P.follows .mixedOrders=true) (hB:monoB l.toArray n a0.tmps.size=true)
  (hnd:ps.Nodup) (hpn:∀p∈ps,p<n) (hchain:∀k p p',ps[k]?=some p→ps[k+1]?=some p'→∀o,l.toArray[p']?=some o→∃e∈o.after,Region.binds .any e=true∧reachB l.toArray l.length p e.on=true)
  (h0:XP w.drew b (ns 0)) (hR:∀i v A B,i<n→R i v A→Turned (fun c=>c=b) w.drew A→Turned (fun c=>c=b) A B→R i v B)
  (hops:∀i o,i<n→¬i∈ps→l.toArray[i]?=some o→o.guard=none→∀(a:Act) (w1:World),a.defers=a0.defers→a.tmps.size=a0.tmps.size→Turned (fun c=>c=b) w.drew w1→(∀j oj d,j<n→l.toArray[j]?=some oj→(∃e∈o.after,Region.binds .any e=true∧e.on=j)→oj.dst=some d→R j (a.tmps.getD d undef) w1)→Rest l.toArray n a0 a →
   o.wp P a w1 (fun a' w'=>∃v,a'=a.put o.dst v∧R i v w'∧Below w1.heap.size w1 w') Q)
  (hcall:∀k i o,ps[k]?=some i→l.toArray[i]?=some o→o.guard=none→∀(a:Act) (w1:World),a.defers=a0.defers→a.tmps.size=a0.tmps.size→Turned (fun c=>c=b) w.drew w1→XP w1 b (ns k)→(∀j oj d,j<n→l.toArray[j]?=some oj→(∃e∈o.after,Region.binds .any e=true∧e.on=j)→oj.dst=some d→R j (a.tmps.getD d undef) w1)→(∀j i' o' d',j<k→ps[j]?=some i'→l.toArray[i']?=some o'→o'.dst=some d'→R i' (a.tmps.getD d' undef) w1)→Rest l.toArray n a0 a →
   o.wp P a w1 (fun a' w'=>∃v,a'=a.put o.dst v∧R i v w'∧Turned (fun c=>c=b) w1 w'∧XP w' b (ns (k+1))) Q)
  (hend:∀a w1,a.defers=a0.defers→a.tmps.size=a0.tmps.size→Turned (fun c=>c=b) w.drew w1→XP w1 b (ns ps.length)→(∀i o d,i<n→l.toArray[i]?=some o→o.dst=some d→R i (a.tmps.getD d undef) w1)→Rest l.toArray n a0 a→wpList P l.toArray Q (l.drop n) a w1) :
  (Code.region id l.toArray true).wp P Q a0 w:=by
 have hB':=hB
 simp only[monoB,monoG,Bool.and_eq_true,decide_eq_true_eq] at hB'
 obtain ⟨⟨hbk,_,_,hn,hsl,_⟩,hgd⟩:=hB'
 refine zcB n (fun listed a W=>Turned (fun c=>c=b) w.drew W∧(∃k,k≤ps.length∧XP W b (ns k)∧∀j p,ps[j]?=some p→(listed.getD p false=true↔j<k))∧(∀i o,i<n→l.toArray[i]?=some o→listed.getD i false=true→∀e∈o.after,Region.binds .any e=true→listed.getD e.on false=true)∧∀i o d,i<n→l.toArray[i]?=some o→listed.getD i false=true→o.dst=some d→R i (a.tmps.getD d undef) W) hm hB ⟨Turned.refl _ _,⟨0,Nat.zero_le _,h0,fun j p _=>by rw[getD_replicate_false];simp⟩,fun i o _ _ h=>(by rw[getD_replicate_false] at h;cases h),fun i o d _ _ h=>by rw[getD_replicate_false] at h;cases h⟩ ?_ ?_
 ·intro i o hi ho listed a w1 hls hdf hsz hrest ⟨hex,⟨k,hk,hxp,hpre⟩,hclo,hval⟩ hun hdeps
  have hlt:i<listed.size:=by rw[hls];omega
  have hset:(listed.setIfInBounds i true).getD i false=true:=by simp[hlt]
  have hclo':∀j oj,j<n→l.toArray[j]?=some oj→(listed.setIfInBounds i true).getD j false=true→∀e∈oj.after,Region.binds .any e=true→(listed.setIfInBounds i true).getD e.on false=true:=by
   intro j oj hj hoj hl e he hb
   have hold:listed.getD e.on false=true:=by
    by_cases h:i=j
    ·subst h
     obtain rfl:oj=o:=Option.some.inj (hoj.symm.trans ho)
     exact hdeps e he hb
    ·rw[getD_set_ne false h] at hl
     exact hclo j oj hj hoj hl e he hb
   by_cases h:i=e.on
   ·rw[←h];exact hset
   ·rw[getD_set_ne false h];exact hold
  have hreach:∀(g p q:Nat),reachB l.toArray g p q=true→q<n→listed.getD q false=true→listed.getD p false=true:=by
   intro g
   induction g with
   | zero=>intro p q h _ hq;simp only[reachB,decide_eq_true_eq] at h;subst h;exact hq
   | succ g ih=>
    intro p q h hqn hq
    simp only[reachB,Bool.or_eq_true,decide_eq_true_eq] at h
    rcases h with h | h
    ·subst h;exact hq
    ·cases hoq:l.toArray[q]? with
     | none=>rw[hoq] at h;cases h
     | some oq=>
      rw[hoq] at h
      rw[Array.any_eq_true'] at h
      obtain ⟨e,he,hb⟩:=h
      simp only[Bool.and_eq_true] at hb
      exact ih p e.on hb.2 (by have:=zhl hbk hoq he hb.1;omega) (hclo q oq hqn hoq hq e he hb.1)
  have hdep:∀j oj d,j<n→l.toArray[j]?=some oj→(∃e∈o.after,Region.binds .any e=true∧e.on=j)→oj.dst=some d→R j (a.tmps.getD d undef) w1:=fun j oj d hj hoj ⟨e,he,hb,hon⟩ hd=>hval j oj d hj hoj (by have:=hdeps e he hb;rwa[hon] at this) hd
  have hvals:∀v w',R i v w'→Turned (fun c=>c=b) w1 w'→∀j oj d,j<n→l.toArray[j]?=some oj→(listed.setIfInBounds i true).getD j false=true→oj.dst=some d→R j ((Act.put a o.dst v).tmps.getD d undef) w':=by
   intro v w' hv hx j oj d hj hoj hl hd
   by_cases e:i=j
   ·subst e
    obtain rfl:oj=o:=Option.some.inj (hoj.symm.trans ho)
    have hd':=(zaS hsl hi hi ho ho hd hd).1
    rw[hd,zaI (by rw[hsz];exact hd'),if_pos rfl]
    exact hv
   ·rw[getD_set_ne false e] at hl
    have hold:=hval j oj d hj hoj hl hd
    have hsame:(a.put o.dst v).tmps.getD d undef=a.tmps.getD d undef:=by
     cases hdo:o.dst with
     | none=>rfl
     | some d'=>
      obtain ⟨hd',hne⟩:=zaS hsl hi hj ho hoj hdo hd
      rw[zaI (by rw[hsz];exact hd'),if_neg (hne.resolve_left e)]
    rw[hsame]
    exact hR j _ _ _ hj hold hex hx
  by_cases hip:i∈ps
  ·obtain ⟨j,hj⟩:=List.getElem?_of_mem hip
   have hkj:¬j<k:=fun h=>by
    have:=(hpre j i hj).2 h
    rw[hun] at this
    cases this
   have hjk:j=k:=by
    rcases Nat.lt_or_ge k j with h | h
    ·exfalso
     obtain ⟨j',rfl⟩:∃j',j=j'+1:=⟨j-1,by omega⟩
     have hjl:=(List.getElem?_eq_some_iff.1 hj).1
     have hp:ps[j']?=some ps[j']:=List.getElem?_eq_getElem (by omega)
     obtain ⟨e,he,hb,hon⟩:=hchain j' _ i hp hj o ho
     have h1:=hreach _ _ _ hon (by have:=zhl hbk ho he hb;omega) (hdeps e he hb)
     have:=(hpre j' _ hp).1 h1
     omega
    ·omega
   subst hjk
   refine Oper.wp_mono ?_ (hcall j i o hj ho (zaB hgd hi ho) a w1 hdf hsz hex hxp hdep (fun j' i' o' d' hj' hi' ho' hd'=>hval i' o' d' (hpn i' (List.mem_of_getElem? hi')) ho' ((hpre j' i' hi').2 hj') hd') hrest)
   rintro a' w' ⟨v,rfl,hv,hx,hxp'⟩
   refine ⟨v,rfl,hex.next hx,⟨j+1,(List.getElem?_eq_some_iff.1 hj).1,hxp',fun j2 p hp=>?_⟩,hclo',hvals v w' hv hx⟩
   by_cases e:i=p
   ·subst e
    have:j2=j:=(List.getElem?_inj (List.getElem?_eq_some_iff.1 hp).1 hnd).1 (hp.trans hj.symm)
    subst this
    rw[hset]
    simp
   ·rw[getD_set_ne false e,hpre j2 p hp]
    have:j2≠j:=fun h=>e (by subst h;rw[hj] at hp;exact Option.some.inj hp)
    omega
  ·refine Oper.wp_mono ?_ (hops i o hi hip ho (zaB hgd hi ho) a w1 hdf hsz hex hdep hrest)
   rintro a' w' ⟨v,rfl,hv,hx⟩
   refine ⟨v,rfl,hex.next (Turned.of_below hx),⟨k,hk,hxp.keepB hx,fun j p hp=>?_⟩,hclo',hvals v w' hv (Turned.of_below hx)⟩
   rw[getD_set_ne false (fun e=>hip (by subst e;exact List.mem_of_getElem? hp))]
   exact hpre j p hp
 ·intro listed a w1 hall hdf hsz hrest ⟨hex,⟨k,hk,hxp,hpre⟩,_,hval⟩
  have hkl:k=ps.length:=by
   rcases Nat.lt_or_ge k ps.length with h | h
   ·exfalso
    have hp:ps[k]?=some ps[k]:=List.getElem?_eq_getElem h
    have:=(hpre k _ hp).1 (hall _ (hpn _ (List.getElem_mem h)))
    omega
   ·omega
  subst hkl
  exact hend a w1 hdf hsz hex hxp (fun i o d hi ho hd=>hval i o d hi ho (hall i hi) hd) hrest
def chB (dr:Bool) (ops:Array Oper):List Nat→Bool
 | p::p'::r=>(if dr then (match ops[p']? with | some o=>o.after.any fun e=>Region.binds .any e&&reachB ops ops.size p e.on | none=>false) else decide (p<p'))&&chB dr ops (p'::r)
 | _=>true
theorem zkt {dr:Bool} {ops:Array Oper}:∀{ps:List Nat},chB dr ops ps=true→∀k p p',ps[k]?=some p→ps[k+1]?=some p'→(if dr then (match ops[p']? with | some o=>o.after.any fun e=>Region.binds .any e&&reachB ops ops.size p e.on | none=>false) else decide (p<p'))=true
 | [],_,k,p,p',h1,_=>by simp at h1
 | [_],_,k,p,p',_,h2=>by simp at h2
 | q::q'::r,h,0,p,p',h1,h2=>by
  simp only[chB,Bool.and_eq_true] at h
  simp only[List.getElem?_cons_zero,Option.some.injEq,List.getElem?_cons_succ,Nat.zero_add] at h1 h2
  subst h1;subst h2
  exact h.1
 | q::q'::r,h,k+1,p,p',h1,h2=>by
  simp only[chB,Bool.and_eq_true] at h
  rw[List.getElem?_cons_succ] at h1 h2
  exact zkt h.2 k p p' h1 h2
def zB (dr:Bool) (ops:Array Oper) (n m:Nat):Bool:=if dr then monoB ops n m else backB .any ops&&(decide (n≤ops.size)&&(slotsB ops n m&&guardsB .any ops n m []))
theorem zel {P:Program} {id:Nat} {dr:Bool} {Q:Exit→Act→World→Prop} {a0:Act} {w:World} {l:List Oper} {b:Nat} (n:Nat) (ps:List Nat) (ns:Nat→Nat) (R:Nat→Value→World→Prop) (hm:P.follows .mixedOrders=true) (hB:zB dr l.toArray n a0.tmps.size=true)
  (hnd:ps.Nodup) (hpn:∀p∈ps,p<n) (hch:chB dr l.toArray ps=true)
  (h0:XP w b (ns 0)) (hR:∀i v A B,i<n→R i v A→Turned (fun c=>c=b) A B→R i v B)
  (hops:∀i o,i<n→¬i∈ps→l.toArray[i]?=some o→∀(a:Act) (w1:World),a.defers=a0.defers→a.tmps.size=a0.tmps.size→Turned (fun c=>c=b) w w1→(∀j oj d,j<n→l.toArray[j]?=some oj→(∃e∈o.after,Region.binds .any e=true∧e.on=j)→oj.dst=some d→R j (a.tmps.getD d undef) w1)→Rest l.toArray n a0 a →
   o.wp P a w1 (fun a' w'=>∃v,a'=a.put o.dst v∧R i v w'∧Below w1.heap.size w1 w') Q)
  (hcall:∀k i o,ps[k]?=some i→l.toArray[i]?=some o→∀(a:Act) (w1:World),a.defers=a0.defers→a.tmps.size=a0.tmps.size→Turned (fun c=>c=b) w w1→XP w1 b (ns k)→(∀j oj d,j<n→l.toArray[j]?=some oj→(∃e∈o.after,Region.binds .any e=true∧e.on=j)→oj.dst=some d→R j (a.tmps.getD d undef) w1)→(∀j i' o' d',j<k→ps[j]?=some i'→l.toArray[i']?=some o'→o'.dst=some d'→R i' (a.tmps.getD d' undef) w1)→Rest l.toArray n a0 a →
   o.wp P a w1 (fun a' w'=>∃v,a'=a.put o.dst v∧R i v w'∧Turned (fun c=>c=b) w1 w'∧XP w' b (ns (k+1))) Q)
  (hend:∀a w1,a.defers=a0.defers→a.tmps.size=a0.tmps.size→Turned (fun c=>c=b) w w1→XP w1 b (ns ps.length)→(∀i o d,i<n→l.toArray[i]?=some o→o.dst=some d→R i (a.tmps.getD d undef) w1)→Rest l.toArray n a0 a→wpList P l.toArray Q (l.drop n) a w1) :
  (Code.region id l.toArray dr).wp P Q a0 w:=by
 have hd:Turned (fun c=>c=b) w w.drew:=Turned.of_below (Below.refl _ _).drew
 cases dr with
 | true=>
  have hB1:monoB l.toArray n a0.tmps.size=true:=hB
  refine zg7 (b:=b) n ps ns R hm hB1 hnd hpn ?_ (h0.keepB (Below.refl _ _).drew) (fun i v A B hi h _ ht=>hR i v A B hi h ht) (fun i o hi hip ho _ a w1 hdf hsz hx hdep hrest=>hops i o hi hip ho a w1 hdf hsz (hd.next hx) hdep hrest) (fun k i o hk ho _ a w1 hdf hsz hx hxp hdep hprev hrest=>hcall k i o hk ho a w1 hdf hsz (hd.next hx) hxp hdep hprev hrest) (fun a w1 hdf hsz hx hxp hval hrest=>hend a w1 hdf hsz (hd.next hx) hxp hval hrest)
  intro k p p' h1 h2 o ho
  have h:=zkt hch k p p' h1 h2
  rw[if_pos rfl,ho] at h
  rw[Array.any_eq_true'] at h
  obtain ⟨e,he,hb⟩:=h
  simp only[Bool.and_eq_true] at hb
  exact ⟨e,he,hb.1,by simpa using hb.2⟩
 | false=>
  have hB':(backB .any l.toArray&&(decide (n≤l.toArray.size)&&(slotsB l.toArray n a0.tmps.size&&guardsB .any l.toArray n a0.tmps.size [])))=true:=hB
  simp only[Bool.and_eq_true,decide_eq_true_eq] at hB'
  obtain ⟨hbk,hns,hsl,hgd⟩:=hB'
  have hnl:n≤l.length:=by simpa using hns
  refine wp_region_lit ?_
  have key:∀m k,m+k=n→∀a w1,a.defers=a0.defers→a.tmps.size=a0.tmps.size→Turned (fun c=>c=b) w w1→(∃q,q≤ps.length∧XP w1 b (ns q)∧∀j p,ps[j]?=some p→(p<k↔j<q))→(∀i o d,i<k→l.toArray[i]?=some o→o.dst=some d→R i (a.tmps.getD d undef) w1)→Rest l.toArray n a0 a→wpList P l.toArray Q (l.drop k) a w1:=by
   intro m
   induction m with
   | zero=>
    intro k hk a w1 hdf hsz ht ⟨q,hq,hxp,hpre⟩ hval hrest
    obtain rfl:k=n:=by omega
    have hql:q=ps.length:=by
     rcases Nat.lt_or_ge q ps.length with h | h
     ·exfalso
      have hp:ps[q]?=some ps[q]:=List.getElem?_eq_getElem h
      have:=(hpre q _ hp).1 (hpn _ (List.getElem_mem h))
      omega
     ·omega
    subst hql
    exact hend a w1 hdf hsz ht hxp hval hrest
   | succ m ih=>
    intro k hk a w1 hdf hsz ht ⟨q,hq,hxp,hpre⟩ hval hrest
    have hkn:k<n:=by omega
    have hkl:k<l.length:=by omega
    have ho:l.toArray[k]?=some l[k]:=by simp[hkl]
    rw[List.drop_eq_getElem_cons hkl]
    have hg:=zaB hgd hkn ho
    have hdep:∀j oj d,j<n→l.toArray[j]?=some oj→(∃e∈(l[k]).after,Region.binds .any e=true∧e.on=j)→oj.dst=some d→R j (a.tmps.getD d undef) w1:=fun j oj d hj hoj ⟨e,he,hb,hon⟩ hd=>hval j oj d (by have:=zhl hbk ho he hb;omega) hoj hd
    unfold wpList
    rw[if_pos (by simp[Region.wanted,hg])]
    left
    have next:∀v w',R k v w'→Turned (fun c=>c=b) w1 w'→(∃q,q≤ps.length∧XP w' b (ns q)∧∀j p,ps[j]?=some p→(p<k+1↔j<q))→wpList P l.toArray Q (l.drop (k+1)) (a.put (l[k]).dst v) w':=by
     intro v w' hv hx hq'
     refine ih (k+1) (by omega) _ w' ?_ ?_ (ht.next hx) hq' ?_ ?_
     ·cases (l[k]).dst<;>exact hdf
     ·cases hdst:(l[k]).dst with
      | none=>exact hsz
      | some d=>simpa[Act.put] using hsz
     ·intro j oj d hj hoj hd
      by_cases e:k=j
      ·subst e
       obtain rfl:oj=l[k]:=Option.some.inj (hoj.symm.trans ho)
       have hd':=(zaS hsl hkn hkn ho ho hd hd).1
       rw[hd,zaI (by rw[hsz];exact hd'),if_pos rfl]
       exact hv
      ·have hold:=hval j oj d (by omega) hoj hd
       have hsame:(a.put (l[k]).dst v).tmps.getD d undef=a.tmps.getD d undef:=by
        cases hdo:(l[k]).dst with
        | none=>rfl
        | some d'=>
         obtain ⟨hd',hne⟩:=zaS hsl hkn (show j<n by omega) ho hoj hdo hd
         rw[zaI (by rw[hsz];exact hd'),if_neg (hne.resolve_left e)]
       rw[hsame]
       exact hR j _ _ _ (by omega) hold hx
     ·intro t hnt
      cases hdst:(l[k]).dst with
      | none=>exact hrest t hnt
      | some d'=>
       have hd':=(zaS hsl hkn hkn ho ho hdst hdst).1
       rw[zaI (by rw[hsz];exact hd'),if_neg ?_]
       ·exact hrest t hnt
       ·rintro rfl;exact hnt k _ hkn ho hdst
    by_cases hip:k∈ps
    ·obtain ⟨j,hj⟩:=List.getElem?_of_mem hip
     have hjq:j=q:=by
      have h1:¬j<q:=fun h=>by have:=(hpre j k hj).2 h;omega
      rcases Nat.lt_or_ge q j with h | h
      ·exfalso
       obtain ⟨j',rfl⟩:∃j',j=j'+1:=⟨j-1,by omega⟩
       have hjl:=(List.getElem?_eq_some_iff.1 hj).1
       have hp:ps[j']?=some ps[j']:=List.getElem?_eq_getElem (by omega)
       have h2:=zkt hch j' _ k hp hj
       simp only[Bool.false_eq_true,if_false,decide_eq_true_eq] at h2
       have:=(hpre j' _ hp).1 h2
       omega
      ·omega
     subst hjq
     refine Oper.wp_mono ?_ (hcall j k _ hj ho a w1 hdf hsz ht hxp hdep (fun j' i' o' d' hj' hi' ho' hd'=>hval i' o' d' ((hpre j' i' hi').2 hj') ho' hd') hrest)
     rintro a' w' ⟨v,rfl,hv,hx,hxp'⟩
     refine next v w' hv hx ⟨j+1,(List.getElem?_eq_some_iff.1 hj).1,hxp',fun j2 p hp=>?_⟩
     by_cases e:k=p
     ·subst e
      have:j2=j:=(List.getElem?_inj (List.getElem?_eq_some_iff.1 hp).1 hnd).1 (hp.trans hj.symm)
      subst this
      simp
     ·have h1:=hpre j2 p hp
      have:j2≠j:=fun h=>e (by subst h;rw[hj] at hp;exact Option.some.inj hp)
      omega
    ·refine Oper.wp_mono ?_ (hops k _ hkn hip ho a w1 hdf hsz ht hdep hrest)
     rintro a' w' ⟨v,rfl,hv,hx⟩
     refine next v w' hv (Turned.of_below hx) ⟨q,hq,hxp.keepB hx,fun j p hp=>?_⟩
     have h1:=hpre j p hp
     have:p≠k:=fun h=>hip (by subst h;exact List.mem_of_getElem? hp)
     omega
  have hz:∀j p,ps[j]?=some p→(p<0↔j<0):=fun j p _=>by omega
  have:=key n 0 rfl a0 w rfl rfl (Turned.refl _ _) ⟨0,Nat.zero_le _,h0,hz⟩ (fun i o d hi=>by omega) (fun _ _=>rfl)
  simpa using this
theorem Sp.at {ops:Array Oper} {n:Nat} {a0 a:Act} {S:Nat→Prop} {b:Nat} {sp:Sp} {W w1:World} (hr:Rest ops n a0 a) (k:Nat) (hB:restB ops n k=true) (h:sp.holds S (a0.tmps.getD k undef) W) (hb:S b) (ht:Turned (fun c=>c=b) W w1):sp.holds S (a.tmps.getD k undef) w1:=by
 rw[hr.at k hB]
 exact Sp.turned h hb ht
theorem Sp.dep {ops:Array Oper} {n:Nat} {o:Oper} {sps:List Sp} {S:Nat→Prop} {a:Act} {w1:World} (h:∀j oj d,j<n→ops[j]?=some oj→(∃e∈o.after,Region.binds .any e=true∧e.on=j)→oj.dst=some d→(sps.getD j .any).holds S (a.tmps.getD d undef) w1) (j d:Nat) (hB:depB ops n o j d=true):(sps.getD j .any).holds S (a.tmps.getD d undef) w1:=
 zaT (R:=fun j v w=>(sps.getD j .any).holds S v w) h j d hB
theorem zad {id:Nat} {dr:Bool} {Q:Exit→Act→World→Prop} {a0:Act} {l:List Oper} {S:Nat→Prop} {b H:Nat} {w W:World} (n:Nat) (ps:List Nat) (ns:Nat→Nat) (sps:List Sp) (hst:XS S b H (ns 0) w W) (hB:zB dr l.toArray n a0.tmps.size=true)
  (hnd:ps.Nodup) (hpn:∀p∈ps,p<n) (hch:chB dr l.toArray ps=true)
  (hops:∀i o,i<n→¬i∈ps→l.toArray[i]?=some o→∀(a:Act) (w1:World),a.defers=a0.defers→(∀c,S1 S H c→c<w1.heap.size)→Turned (fun c=>c=b) W w1→(∀j oj d,j<n→l.toArray[j]?=some oj→(∃e∈o.after,Region.binds .any e=true∧e.on=j)→oj.dst=some d→(sps.getD j .any).holds (S1 S H) (a.tmps.getD d undef) w1)→Rest l.toArray n a0 a →
   o.wp prog a w1 (SpK (S1 S H) (sps.getD i .any) o a w1) Q)
  (hcall:∀k i o,ps[k]?=some i→l.toArray[i]?=some o→∀(a:Act) (w1:World),a.defers=a0.defers→XS S b H (ns k) w w1→Turned (fun c=>c=b) W w1→(∀j oj d,j<n→l.toArray[j]?=some oj→(∃e∈o.after,Region.binds .any e=true∧e.on=j)→oj.dst=some d→(sps.getD j .any).holds (S1 S H) (a.tmps.getD d undef) w1)→(∀j i' o' d',j<k→ps[j]?=some i'→l.toArray[i']?=some o'→o'.dst=some d'→(sps.getD i' .any).holds (S1 S H) (a.tmps.getD d' undef) w1)→Rest l.toArray n a0 a →
   o.wp prog a w1 (SpX (S1 S H) b (ns (k+1)) (sps.getD i .any) o a w1) Q)
  (hend:∀a w1,a.defers=a0.defers→a.tmps.size=a0.tmps.size→XS S b H (ns ps.length) w w1→Turned (fun c=>c=b) W w1→(∀i o d,i<n→l.toArray[i]?=some o→o.dst=some d→(sps.getD i .any).holds (S1 S H) (a.tmps.getD d undef) w1)→Rest l.toArray n a0 a→wpList prog l.toArray Q (l.drop n) a w1) :
  (Code.region id l.toArray dr).wp prog Q a0 W:=by
 refine zel (b:=b) n ps ns (fun i v w1=>(sps.getD i .any).holds (S1 S H) v w1) (by kernel_rfl) hB hnd hpn hch hst.hx (fun i v A B _ h ht=>Sp.turned h (.inl hst.own) ht) ?_ ?_ ?_
 ·intro i o hi hip ho a w1 hdf hsz ht hdep hrest
  exact hops i o hi hip ho a w1 hdf (fun c hc=>Nat.lt_of_lt_of_le (hst.lt c hc) ht.size) ht hdep hrest
 ·intro k i o hk ho a w1 hdf hsz ht hxp hdep hprev hrest
  exact hcall k i o hk ho a w1 hdf (hst.next ht hxp) ht hdep hprev hrest
 ·intro a w1 hdf hsz ht hxp hval hrest
  exact hend a w1 hdf hsz (hst.next ht hxp) ht hval hrest
namespace Sy
theorem bnd_split {α β:Type} {m:M α} {k:α→M β} {n:Nat} {r:Option (β × Nat)} (h:bnd m k n=some r):∃p,m n=some p∧(p=none→r=none)∧(∀y n',p=some (y,n')→k y n'=some r):=by
 unfold bnd at h
 cases hm:m n with
 | none=>rw[hm] at h;cases h
 | some p=>
  rw[hm] at h
  refine ⟨p,rfl,fun hp=>?_,fun y n' hp=>?_⟩
  ·subst hp;exact (Option.some.inj h).symm
  ·subst hp;exact h
theorem bnd_next {α β γ:Type} {p:Option (α × Nat)} {m2:α→M β} {k:α→β→M γ} {r:Option (γ × Nat)} (h0:p=none→r=none) (h:∀y n',p=some (y,n')→bnd (m2 y) (k y) n'=some r):∃q:Option (β × Nat),(∀y n',p=some (y,n')→m2 y n'=some q)∧(p=none→q=none)∧(q=none→r=none)∧(∀y n' z n'',p=some (y,n')→q=some (z,n'')→k y z n''=some r):=by
 match p,h0,h with
 | none,h0,_=>exact ⟨none,fun _ _ h=>(by cases h),fun _=>rfl,fun _=>h0 rfl,fun _ _ _ _ h=>(by cases h)⟩
 | some (y,n'),_,h=>
  obtain ⟨q,h1,h2,h3⟩:=bnd_split (h y n' rfl)
  refine ⟨q,fun y2 n2 hp=>?_,fun hp=>(by cases hp),h2,fun y2 n2 z n'' hp hq=>?_⟩
  ·obtain ⟨rfl,rfl⟩:=Prod.mk.inj (Option.some.inj hp);exact h1
  ·obtain ⟨rfl,rfl⟩:=Prod.mk.inj (Option.some.inj hp);exact h3 z n'' hq
theorem need_split {α:Type} {c:Bool} {m:M α} {n:Nat} {r:Option (α × Nat)} (h:need c m n=some r):(c=false→r=none)∧(c=true→m n=some r):=by
 unfold need at h
 refine ⟨fun hc=>?_,fun hc=>?_⟩
 ·subst hc;exact (Option.some.inj h).symm
 ·subst hc;exact h
theorem bad_split {α:Type} {n:Nat} {r:Option (α × Nat)} (h:(bad:M α) n=some r):r=none:=(Option.some.inj h).symm
theorem ret_split {α:Type} {x:α} {n:Nat} {r:Option (α × Nat)} (h:ret x n=some r):r=some (x,n):=(Option.some.inj h).symm
end Sy
theorem zat {S:Nat→Prop} {b n:Nat} {w:World} (hS:∀c,S c→c<w.heap.size) (hb:S b) (hx:XP w b n) (hE:Env w):∃W0,w.alloc (.cells #[.int .i64 0,.int .i64 0,.int .i64 0,.string ⟨#[]⟩,.slice none 0 0] 26)=W0∧XS S b w.heap.size n w W0:=⟨_,rfl,zfr hS hb hx hE⟩
theorem zbt {S:Nat→Prop} {b n:Nat} {w:World} {x1:Dat} {k1 m1 d1:Int} {s1:ByteArray} {o1:Option Addr} {len1 cap1:Nat} (hS:∀c,S c→c<w.heap.size) (hb:S b) (hx:XP w b n) (hE:Env w) (hx1:RepD (hide w S) w.heap.size x1 (.agg #[.int .i64 k1,.int .i64 m1,.int .i64 d1,.string s1,.slice o1 len1 cap1])):∃W0,(w.alloc (.cells #[.int .i64 k1,.int .i64 m1,.int .i64 d1,.string s1,.slice o1 len1 cap1] 26)).alloc (.cells #[.int .i64 0,.int .i64 0,.int .i64 0,.string ⟨#[]⟩,.slice none 0 0] 26)=W0∧XS S b (w.heap.size+1) n w W0∧(Sp.elm (some x1)).holds (S1 S (w.heap.size+1)) (.pointer (some ⟨w.heap.size,0,none⟩)) W0:=⟨_,rfl,zhQ hS hb hx hE hx1⟩
theorem zj2 {S:Nat→Prop} {b n:Nat} {w:World} {x1:Dat} {k1 m1 d1:Int} {s1:ByteArray} {o1:Option Addr} {len1 cap1:Nat} {x2:Dat} {k2 m2 d2:Int} {s2:ByteArray} {o2:Option Addr} {len2 cap2:Nat} (hS:∀c,S c→c<w.heap.size) (hb:S b) (hx:XP w b n) (hE:Env w) (hx1:RepD (hide w S) w.heap.size x1 (.agg #[.int .i64 k1,.int .i64 m1,.int .i64 d1,.string s1,.slice o1 len1 cap1])) (hx2:RepD (hide w S) w.heap.size x2 (.agg #[.int .i64 k2,.int .i64 m2,.int .i64 d2,.string s2,.slice o2 len2 cap2])):∃W0,((w.alloc (.cells #[.int .i64 k1,.int .i64 m1,.int .i64 d1,.string s1,.slice o1 len1 cap1] 26)).alloc (.cells #[.int .i64 k2,.int .i64 m2,.int .i64 d2,.string s2,.slice o2 len2 cap2] 26)).alloc (.cells #[.int .i64 0,.int .i64 0,.int .i64 0,.string ⟨#[]⟩,.slice none 0 0] 26)=W0∧XS S b (w.heap.size+2) n w W0∧(Sp.elm (some x1)).holds (S1 S (w.heap.size+2)) (.pointer (some ⟨w.heap.size,0,none⟩)) W0∧(Sp.elm (some x2)).holds (S1 S (w.heap.size+2)) (.pointer (some ⟨w.heap.size+1,0,none⟩)) W0:=⟨_,rfl,zkP hS hb hx hE hx1 hx2⟩
theorem fin_s {S:Nat→Prop} {b H m:Nat} {w w8:World} {o1:Option Dat} {r:Option (Dat × Nat)} {fn:Func} {a:Act} {l:List Oper} {n hs fs:Nat} {Q:Exit→Act→World→Prop} {ty:TypeId} {ps:String} {af:Array Edge}
  (hst:XS S b H m w w8) (hx:(Sp.dat o1).holds (S1 S H) (a.tmps.getD fs undef) w8) (hr:∀x,o1=some x→r=some (x,m)) (hp:a.tmps.getD hs undef=.pointer (some ⟨H,0,none⟩)) (hd:a.defers=[])
  (hl:l.drop n=[⟨none,.store 26 (.tmp hs) (.tmp fs),ty,ps,af,none⟩]) (hres:fn.results=#[.cell hs 26])
  (hQ:∀w',bodyPost prog fn (XRes S b r w) .ret a w'→Q .normal a w'):wpList prog l.toArray Q (l.drop n) a w8:=by
 obtain ⟨x,rfl,hrep⟩:=hx
 obtain ⟨k,m',d,s,o',len,cap,hv⟩:=zae hrep.unhide
 rw[hv] at hrep
 rw[hr x rfl] at hQ
 rw[hl]
 refine wpList_plain rfl ?_
 have hev1:a.eval (.tmp hs)=.pointer (some ⟨H,0,none⟩):=hp
 have hev2:a.eval (.tmp fs)=.agg #[.int .i64 k,.int .i64 m',.int .i64 d,.string s,.slice o' len cap]:=hv
 obtain ⟨p0,p1,p2,p3,p4⟩:=hst.box.cells
 obtain ⟨z0,z1,z2,z3,z4⟩:=hst.box.free
 have pl:=hst.box.lt
 obtain ⟨r0,r1,r2,r3,r4⟩:=(hst.box.set (.int .i64 k) (.int .i64 m') (.int .i64 d) (.string s) (.slice o' len cap)).cells
 have hend:bodyPost prog fn (XRes S b (some (x,m)) w) .ret a (set5 w8 H (.int .i64 k) (.int .i64 m') (.int .i64 d) (.string s) (.slice o' len cap)):=by
  refine bodyPost_ret (v:=.agg #[.int .i64 k,.int .i64 m',.int .i64 d,.string s,.slice o' len cap]) ?_ hd (hst.fin hrep)
  have hp2:=hp
  simp only[Array.getD_eq_getD_getElem?] at hp2
  simp[results,hres,go_sem,hp2,r0,r1,r2,r3,r4]
 have hq:=hQ _ hend
 unfold Oper.wp execOp
 simp only[hev1,hev2]
 clear hr hrep hv hend hQ hst r0 r1 r2 r3 r4
 go_simp
 intro K hK
 exact hK _ _ hq
theorem zaK {S:Nat→Prop} {o:Oper} {a:Act} {w:World} {Q:Exit→Act→World→Prop} {f:FuncId} {t0 t1:Nat} {ts:Array TypeId} {v0:Value} {b:Nat} {p:Option (Dat × Nat)} (ho:o.op=.call { callee:=.value (.func f),args:=#[.tmp t0,.tmp t1],argTypes:=ts }) (h0:a.tmps.getD t0 undef=v0) (hf:∀args w,(callFunc f args).run prog w=.ok (.enter f args) w) (hc:Calls prog f #[v0,a.tmps.getD t1 undef] w (XRes S b p w)) (hbad:p=none→∀w',Turned (fun c=>c=b) w w'→Q (.panic badE) a w'):o.wp prog a w (SpX S b (cnt p) (.dat (p.map (·.1))) o a w) Q:=
 zaE ho (by simp only[List.map_toArray,List.map_cons,List.map_nil];rw[←h0];rfl) hf hc hbad
theorem zgg {S:Nat→Prop} {o:Oper} {a:Act} {w:World} {Q:Exit→Act→World→Prop} {f:FuncId} {t0 t1:Nat} {ts:Array TypeId} {v0:Value} {b:Nat} {p:Option (List Dat × Nat)} (ho:o.op=.call { callee:=.value (.func f),args:=#[.tmp t0,.tmp t1],argTypes:=ts }) (h0:a.tmps.getD t0 undef=v0) (hf:∀args w,(callFunc f args).run prog w=.ok (.enter f args) w) (hc:Calls prog f #[v0,a.tmps.getD t1 undef] w (XAll S b p w)) (hbad:p=none→∀w',Turned (fun c=>c=b) w w'→Q (.panic badE) a w'):o.wp prog a w (SpX S b (cnt p) (.row (p.map (·.1))) o a w) Q:=
 zhZ ho (by simp only[List.map_toArray,List.map_cons,List.map_nil];rw[←h0];rfl) hf hc hbad
end
section
open Go Go.RowKit
theorem zk3 {P:Program} {o:Oper} {a:Act} {w:World} {K:Act→World→Prop} {Q:Exit→Act→World→Prop} {v:Value} {w':World} (h:(execOp a.eval o).run P w=.ok (.value v) w') (hK:K (a.put o.dst v) w'):o.wp P a w K Q:=by
 unfold Oper.wp
 rw[h]
 exact hK
theorem zlV {ops:Array Oper} {n q:Nat} {o:Oper} {R:Nat→Value→World→Prop} {a:Act} {w1:World} (h:∀j oj d,j<n→j≠q→ops[j]?=some oj→(∃e∈o.after,Region.binds .any e=true∧e.on=j)→oj.dst=some d→R j (a.tmps.getD d undef) w1) (j d:Nat) (hB:depB ops n o j d=true) (hj:j≠q):R j (a.tmps.getD d undef) w1:=by
 simp only[depB,Bool.and_eq_true,decide_eq_true_eq] at hB
 obtain ⟨h1,h2,h3⟩:=hB
 cases hj':ops[j]? with
 | none=>rw[hj'] at h2;cases h2
 | some oj=>
  rw[hj'] at h2
  rw[Array.any_eq_true'] at h3
  obtain ⟨e,he,hb⟩:=h3
  simp only[Bool.and_eq_true,beq_iff_eq] at hb
  exact h j oj d h1 hj hj' ⟨e,he,hb.1,hb.2⟩ (by simpa using h2)
def LpR (S:Nat→Prop) (fv gv:Value) (f g:Dat) (i:Nat) (v:Value) (W:World):Prop:=match i with
 | 0=>v=fv
 | 1=>v=gv
 | 2=>RepS (hide W S) W.heap.size [f,g] v
 | 3=>RepD (hide W S) W.heap.size (Dat.list [f,g]) v
 | 4=>RepS (hide W S) W.heap.size [Dat.list [f,g]] v
 | 5=>RepD (hide W S) W.heap.size (Dat.list [Dat.list [f,g]]) v
 | 6=>v=fv
 | 7=>RepS (hide W S) W.heap.size [Dat.list [Dat.list [f,g]],f] v
 | 8=>RepD (hide W S) W.heap.size (Sy.form Sy.letrecB [Dat.list [Dat.list [f,g]],f]) v
 | _=>True
theorem zfS {S S':Nat→Prop} {fv gv:Value} {f g:Dat}:∀i v (A B:World),LpR S fv gv f g i v A→Shown A S B S'→A.heap.size≤B.heap.size→LpR S' fv gv f g i v B:=by
 intro i v A B h hs hz
 match i,h with
 | 0,h | 1,h | 6,h=>exact h
 | 2,h | 4,h | 7,h=>exact RepS.shown h hs hz
 | 3,h | 5,h | 8,h=>exact RepD.shown h hs hz
 | _+9,_=>exact trivial
theorem zd2 {E:Dat→Sy.M Dat} (hE:EOk E) (S:Nat→Prop) (b n:Nat) (f g:Dat) (fv gv:Value) (lv:List Dat) (vv:Value) (w:World) (r:Option (Dat × Nat)) (hr:Sy.loopF E f g lv n=some r) (hS:∀c,S c→c<w.heap.size) (hb:S b) (hx:XP w b n) (hV:Env w) (hfv:RepD (hide w S) w.heap.size f fv) (hgv:RepD (hide w S) w.heap.size g gv) (hv:RepS (hide w S) w.heap.size lv vv) (hl:lv.length≤100000) :
  Calls prog 145 #[.pointer (some ⟨b,0,none⟩),fv,gv,vv] w (XRes S b r w):=by
 obtain ⟨k1,m1,d1,s1,o1,len1,cap1,rfl⟩:=zae hfv.unhide
 obtain ⟨k2,m2,d2,s2,o2,len2,cap2,rfl⟩:=zae hgv.unhide
 obtain ⟨V1,hV1⟩:∃V1,w.alloc (.cells #[.int .i64 k1,.int .i64 m1,.int .i64 d1,.string s1,.slice o1 len1 cap1] 26)=V1:=⟨_,rfl⟩
 obtain ⟨V2,hV2⟩:∃V2,V1.alloc (.cells #[.int .i64 k2,.int .i64 m2,.int .i64 d2,.string s2,.slice o2 len2 cap2] 26)=V2:=⟨_,rfl⟩
 obtain ⟨W0,hW0⟩:∃W0,V2.alloc (.cells #[.int .i64 0,.int .i64 0,.int .i64 0,.string ⟨#[]⟩,.slice none 0 0] 26)=W0:=⟨_,rfl⟩
 have z1:V1.heap.size=w.heap.size+1:=by rw[←hV1];simp
 have z2:V2.heap.size=w.heap.size+2:=by rw[←hV2];simp[z1]
 have c1:Below w.heap.size w V1:=by rw[←hV1];exact Below.one _ _
 have c2:Below V1.heap.size V1 V2:=by rw[←hV2];exact Below.one _ _
 have c4:Below V2.heap.size V2 W0:=by rw[←hW0];exact Below.one _ _
 have hfx1:Box5 W0 w.heap.size 26 (.int .i64 k1) (.int .i64 m1) (.int .i64 d1) (.string s1) (.slice o1 len1 cap1):=(c4.block _ (by omega)).trans ((c2.block _ (by omega)).trans (by rw[←hV1];exact Box5.new w _ _ _ _ _ _))
 have hfx2:Box5 W0 (w.heap.size+1) 26 (.int .i64 k2) (.int .i64 m2) (.int .i64 d2) (.string s2) (.slice o2 len2 cap2):=(c4.block _ (by omega)).trans (by rw[←hV2,←z1];exact Box5.new V1 _ _ _ _ _ _)
 have hbx:Box5 W0 (w.heap.size+2) 26 (.int .i64 0) (.int .i64 0) (.int .i64 0) (.string ⟨#[]⟩) (.slice none 0 0):=by rw[←hW0,←z2];exact Box5.new V2 _ _ _ _ _ _
 have hbl:Below w.heap.size w W0:=c1.trans ((c2.mono (by omega)).trans (c4.mono (by omega)))
 have hW:((w.alloc (.cells #[.int .i64 k1,.int .i64 m1,.int .i64 d1,.string s1,.slice o1 len1 cap1] 26)).alloc (.cells #[.int .i64 k2,.int .i64 m2,.int .i64 d2,.string s2,.slice o2 len2 cap2] 26)).alloc (.cells #[.int .i64 0,.int .i64 0,.int .i64 0,.string ⟨#[]⟩,.slice none 0 0] 26)=W0:=by rw[hV1,hV2,hW0]
 clear hV1 hV2 hW0 c1 c2 c4 z1 z2
 clear V1 V2
 have hbw:b<w.heap.size:=hS b hb
 have hS1:∀c,(S1 S (w.heap.size+2)) c→c<W0.heap.size:=fun c hc=>hc.elim (fun h=>Nat.lt_of_lt_of_le (hS c h) hbl.size) fun h=>by subst h;exact hbx.lt
 have hshow:Shown w S W0 (S1 S (w.heap.size+2)):=fun c o' u hc hu=>by
  have hcl:=zai hu
  exact ⟨fun h=>h.elim hc fun h=>by omega,(hbl.cell (p:=⟨c,o',none⟩) hcl).trans hu⟩
 have HST0:=zh (show XS S b (w.heap.size+2) n w W0 from ⟨hS,hb,by omega,Turned.of_below hbl,hx.keep hbl,hV.below hbl,hbx⟩)
 have HBX:=zh hbx
 have HF1:=zh hfx1
 have HF2:=zh hfx2
 have HBL:=zh hbl
 have HW0:=zh hW
 have HLT:=zh hbw
 have HB:=zh hb
 have HS1:=zh hS1
 have HFV:=zh (hfv.shown hshow hbl.size)
 have HGV:=zh (hgv.shown hshow hbl.size)
 have HV1:=zh (hv.shown hshow hbl.size)
 have HX:=zh (show XP W0 b n from hx.keep hbl)
 have HX0:=zh hx
 have HV:=zh hV
 have HE:=zh hE
 have HR4:=zh (show Sy.bnd (Sy.all E lv) (fun r=>Sy.ret (Dat.list (Sy.form Sy.letrecB [Dat.list [Dat.list [f,g]],f]::r))) n=some r from hr)
 have HLL:=zh hl
 clear hbx hfx1 hfx2 hbl hW hbw hb hS1 hfv hgv hv hx hV hE hr hS hshow hl
 go_enter func145,ntmps145
 go_upto_region 1 with fail
 rw[HW0.out]
 have hd2:Below W0.heap.size W0 W0.drew:=(Below.refl W0.heap.size W0).drew
 have HTB:=zh (show ∀w3,Below W0.drew.heap.size W0.drew w3→Below W0.heap.size W0 w3 from fun w3 h=>hd2.trans h)
 refine zfv 10 9 _ 9 (S1 S (w.heap.size+2)) (fun S8=>LpR S8 (.agg #[.int .i64 k1,.int .i64 m1,.int .i64 d1,.string s1,.slice o1 len1 cap1]) (.agg #[.int .i64 k2,.int .i64 m2,.int .i64 d2,.string s2,.slice o2 len2 cap2]) f g) (.cells #[.int .i64 0,.int .i64 0,.int .i64 0,.string ⟨#[]⟩,.slice none 0 0] 26) (by kernel_rfl) (by show monoB _ 10 26=true;kernel_rfl) ⟨rfl,rfl,by omega⟩ HS1.out (fun S8 i v A B h hb=>zfS i v A B h (Shown.below hb) hb.size) (fun i v A h _=>zfS i v A _ h (za2 rfl (Below.one _ _)) (Below.one A _).size) ?hops ?hbox ?hend
 case hbox=>
  intro a8 w3
  exact wpList_plain rfl fun K hK=>zk3 (v:=.pointer (some ⟨w3.heap.size,0,none⟩)) (by go_simp) (hK _ _ ⟨rfl,rfl,rfl⟩)
 case hops=>
  intro S8 i o8 hi hiq ho a8 w3 hdf hsz hex hs8 hlt8 hin8 hdep hrest
  have ht3:=HTB.out w3 hex
  have hz3:=ht3.size
  have hdp:∀j d,depB _ 10 o8 j d=true→j≠9→LpR S8 (.agg #[.int .i64 k1,.int .i64 m1,.int .i64 d1,.string s1,.slice o1 len1 cap1]) (.agg #[.int .i64 k2,.int .i64 m2,.int .i64 d2,.string s2,.slice o2 len2 cap2]) f g j (a8.tmps.getD d undef) w3:=fun j d h1 h2=>zlV hdep j d h1 h2
  have hsh:Shown W0 (S1 S (w.heap.size+2)) w3 S8:=fun c o' u hc hu=>by
   have hcl:=zai hu
   refine ⟨fun h=>?_,(ht3.cell (p:=⟨c,o',none⟩) hcl).trans hu⟩
   rcases hin8 c h with h | h
   ·exact hc h
   ·have h':W0.heap.size≤c:=h
    omega
  match i,hi with
  | 0,_=>
   obtain rfl:_=o8:=Option.some.inj ho
   have h5:a8.tmps.getD 5 undef=.pointer (some ⟨w.heap.size,0,none⟩):=hrest.at 5 (by kernel_rfl)
   have hfb:Box5 w3 (w.heap.size) 26 (.int .i64 k1) (.int .i64 m1) (.int .i64 d1) (.string s1) (.slice o1 len1 cap1):=(ht3.block _ HF1.out.lt).trans HF1.out
   obtain ⟨q0,q1,q2,q3,q4⟩:=hfb.cells
   have ql:=hfb.lt
   exact zaw (v:=.agg #[.int .i64 k1,.int .i64 m1,.int .i64 d1,.string s1,.slice o1 len1 cap1]) rfl (by go_simp) rfl (Below.refl _ _)
  | 1,_=>
   obtain rfl:_=o8:=Option.some.inj ho
   have h6:a8.tmps.getD 6 undef=.pointer (some ⟨w.heap.size+1,0,none⟩):=hrest.at 6 (by kernel_rfl)
   have hfb:Box5 w3 (w.heap.size+1) 26 (.int .i64 k2) (.int .i64 m2) (.int .i64 d2) (.string s2) (.slice o2 len2 cap2):=(ht3.block _ HF2.out.lt).trans HF2.out
   obtain ⟨q0,q1,q2,q3,q4⟩:=hfb.cells
   have ql:=hfb.lt
   exact zaw (v:=.agg #[.int .i64 k2,.int .i64 m2,.int .i64 d2,.string s2,.slice o2 len2 cap2]) rfl (by go_simp) rfl (Below.refl _ _)
  | 2,_=>
   obtain rfl:_=o8:=Option.some.inj ho
   have h10:a8.tmps.getD 10 undef=.agg #[.int .i64 k1,.int .i64 m1,.int .i64 d1,.string s1,.slice o1 len1 cap1]:=hdp 0 10 (by kernel_rfl) (by decide)
   have h11:a8.tmps.getD 11 undef=.agg #[.int .i64 k2,.int .i64 m2,.int .i64 d2,.string s2,.slice o2 len2 cap2]:=hdp 1 11 (by kernel_rfl) (by decide)
   exact zaw rfl (zcH rfl h10 h11) (zbs (W:=w3) (n:=2) (cs:=[.int .i64 k1,.int .i64 m1,.int .i64 d1,.string s1,.slice o1 len1 cap1,.int .i64 k2,.int .i64 m2,.int .i64 d2,.string s2,.slice o2 len2 cap2]) rfl (by omega) hlt8 ⟨_,_,_,_,_,_,rfl,HFV.out.shown hsh hz3,_,_,_,_,_,_,rfl,HGV.out.shown hsh hz3,rfl⟩) (Below.one _ _)
  | 3,_=>
   obtain rfl:_=o8:=Option.some.inj ho
   have h12:RepS (hide w3 S8) w3.heap.size [f,g] (a8.tmps.getD 12 undef):=hdp 2 12 (by kernel_rfl) (by decide)
   refine zcg (K:=fun a' w'=>∃v,a'=Act.put a8 (some 13) v∧LpR S8 (.agg #[.int .i64 k1,.int .i64 m1,.int .i64 d1,.string s1,.slice o1 len1 cap1]) (.agg #[.int .i64 k2,.int .i64 m2,.int .i64 d2,.string s2,.slice o2 len2 cap2]) f g 3 v w'∧Below w3.heap.size w3 w') (f:=87) (s:=12) (x:=a8.tmps.getD 12 undef) rfl rfl rfl (fun _ _=>rfl) (zaR S8 [f,g] _ _ _ hlt8 h12 (Nat.le_refl _)) ?_
   rintro e w' ⟨v,rfl,h1,h2⟩
   exact ⟨v,rfl,v,rfl,h1,h2⟩
  | 4,_=>
   obtain rfl:_=o8:=Option.some.inj ho
   have h13:RepD (hide w3 S8) w3.heap.size (Dat.list [f,g]) (a8.tmps.getD 13 undef):=hdp 3 13 (by kernel_rfl) (by decide)
   obtain ⟨k8,m8,d8,s8,u8,len8,cap8,h8⟩:=zae h13.unhide
   rw[h8] at h13
   exact zaw rfl (zei rfl h8) (zaA hlt8 h13) (Below.one _ _)
  | 5,_=>
   obtain rfl:_=o8:=Option.some.inj ho
   have h14:RepS (hide w3 S8) w3.heap.size [Dat.list [f,g]] (a8.tmps.getD 14 undef):=hdp 4 14 (by kernel_rfl) (by decide)
   refine zcg (K:=fun a' w'=>∃v,a'=Act.put a8 (some 15) v∧LpR S8 (.agg #[.int .i64 k1,.int .i64 m1,.int .i64 d1,.string s1,.slice o1 len1 cap1]) (.agg #[.int .i64 k2,.int .i64 m2,.int .i64 d2,.string s2,.slice o2 len2 cap2]) f g 5 v w'∧Below w3.heap.size w3 w') (f:=87) (s:=14) (x:=a8.tmps.getD 14 undef) rfl rfl rfl (fun _ _=>rfl) (zaR S8 [Dat.list [f,g]] _ _ _ hlt8 h14 (Nat.le_refl _)) ?_
   rintro e w' ⟨v,rfl,h1,h2⟩
   exact ⟨v,rfl,v,rfl,h1,h2⟩
  | 6,_=>
   obtain rfl:_=o8:=Option.some.inj ho
   have h5:a8.tmps.getD 5 undef=.pointer (some ⟨w.heap.size,0,none⟩):=hrest.at 5 (by kernel_rfl)
   have hfb:Box5 w3 (w.heap.size) 26 (.int .i64 k1) (.int .i64 m1) (.int .i64 d1) (.string s1) (.slice o1 len1 cap1):=(ht3.block _ HF1.out.lt).trans HF1.out
   obtain ⟨q0,q1,q2,q3,q4⟩:=hfb.cells
   have ql:=hfb.lt
   exact zaw (v:=.agg #[.int .i64 k1,.int .i64 m1,.int .i64 d1,.string s1,.slice o1 len1 cap1]) rfl (by go_simp) rfl (Below.refl _ _)
  | 7,_=>
   obtain rfl:_=o8:=Option.some.inj ho
   have h16:a8.tmps.getD 16 undef=.agg #[.int .i64 k1,.int .i64 m1,.int .i64 d1,.string s1,.slice o1 len1 cap1]:=hdp 6 16 (by kernel_rfl) (by decide)
   have h15:RepD (hide w3 S8) w3.heap.size (Dat.list [Dat.list [f,g]]) (a8.tmps.getD 15 undef):=hdp 5 15 (by kernel_rfl) (by decide)
   obtain ⟨k8,m8,d8,s8,u8,len8,cap8,h8⟩:=zae h15.unhide
   rw[h8] at h15
   exact zaw rfl (zcH rfl h8 h16) (zbs (W:=w3) (n:=2) (cs:=[.int .i64 k8,.int .i64 m8,.int .i64 d8,.string s8,.slice u8 len8 cap8,.int .i64 k1,.int .i64 m1,.int .i64 d1,.string s1,.slice o1 len1 cap1]) rfl (by omega) hlt8 ⟨_,_,_,_,_,_,rfl,h15,_,_,_,_,_,_,rfl,HFV.out.shown hsh hz3,rfl⟩) (Below.one _ _)
  | 8,_=>
   obtain rfl:_=o8:=Option.some.inj ho
   have h17:RepS (hide w3 S8) w3.heap.size [Dat.list [Dat.list [f,g]],f] (a8.tmps.getD 17 undef):=hdp 7 17 (by kernel_rfl) (by decide)
   refine wpList_plain rfl fun K hK=>?_
   refine zba (vals:=#[.string Sy.letrecB,a8.tmps.getD 17 undef]) rfl (by simp only[List.map_toArray,List.map_cons,List.map_nil];rfl) (fun _ _=>rfl) (zbD S8 Sy.letrecB (by decide) [Dat.list [Dat.list [f,g]],f] _ _ w3 hlt8 h17 (Nat.le_refl _) (by simp)) ?_
   rintro e w' ⟨v,rfl,h1,h2⟩
   exact .inl ⟨v,rfl,hK _ _ ⟨rfl,v,rfl,h1,h2⟩⟩
  | 9,_=>exact absurd rfl hiq
 case hend=>
  intro a8 w3 G hdf hsz hex h9 hG hbG hval hrest
  have ht3:=HTB.out w3 hex
  have h18:RepD (hide w3 (S1 (S1 S (w.heap.size+2)) G)) w3.heap.size (Sy.form Sy.letrecB [Dat.list [Dat.list [f,g]],f]) (a8.tmps.getD 18 undef):=hval 8 _ 18 (by omega) (by omega) rfl rfl
  obtain ⟨f8,ha,hf8⟩:=zaq [false,false,false,false,false,false,false,false,false,true,true,true,true,true,true,true,true,true,true,false,false,false,false,false,false,false] (by kernel_rfl) hdf hsz hrest
  rw[←hf8] at h18 h9
  subst ha
  obtain ⟨k9,m9,d9,s9,o9,len9,cap9,h8⟩:=zae h18.unhide
  rw[h8] at h18
  have hGB:Box5 w3 G 26 (.int .i64 0) (.int .i64 0) (.int .i64 0) (.string ⟨#[]⟩) (.slice none 0 0):=hbG
  obtain ⟨p0,p1,p2,p3,p4⟩:=hGB.cells
  obtain ⟨z0,z1,z2,z3,z4⟩:=hGB.free
  have pl:=hGB.lt
  have hG0:W0.heap.size≤G:=hG
  have h5:=zah w3 G W0.heap.size (.int .i64 k9) (.int .i64 m9) (.int .i64 d9) (.string s9) (.slice o9 len9 cap9) hG0
  have hg6:=h18.shown (B':=(set5 w3 G (.int .i64 k9) (.int .i64 m9) (.int .i64 d9) (.string s9) (.slice o9 len9 cap9)).heap.size) ((Shown.five w3 (S:=S1 (S1 S (w.heap.size+2)) G) (.inr rfl) (.int .i64 k9) (.int .i64 m9) (.int .i64 d9) (.string s9) (.slice o9 len9 cap9)).trans (Shown.less _ (S':=(S1 S (w.heap.size+2))) fun _ _ h=>.inl h)) (by rw[zao];exact Nat.le_refl _)
  have hbn:=hGB.set (.int .i64 k9) (.int .i64 m9) (.int .i64 d9) (.string s9) (.slice o9 len9 cap9)
  have hb6:=ht3.trans h5
  obtain ⟨W6,hW6⟩:∃W6,set5 w3 G (.int .i64 k9) (.int .i64 m9) (.int .i64 d9) (.string s9) (.slice o9 len9 cap9)=W6:=⟨_,rfl⟩
  rw[hW6] at hg6 hb6
  have hbn':Box5 W6 G 26 (.int .i64 k9) (.int .i64 m9) (.int .i64 d9) (.string s9) (.slice o9 len9 cap9):=by rw[←hW6];exact hbn
  have hst6:XS S b (w.heap.size+2) n w W6:=HST0.out.below hb6
  have hG6:¬(S1 S (w.heap.size+2)) G:=fun h=>by have:=HST0.out.lt G h;omega
  obtain ⟨hh,hhd⟩:∃hh,Sy.form Sy.letrecB [Dat.list [Dat.list [f,g]],f]=hh:=⟨_,rfl⟩
  rw[hhd] at hg6
  have HR4:=zh (show Sy.bnd (Sy.all E lv) (fun r=>Sy.ret (Dat.list (hh::r))) n=some r from by rw[←hhd];exact HR4.out)
  have HEL:=zh (show (Sp.elm (some hh)).holds (S1 S (w.heap.size+2)) (.pointer (some ⟨G,0,none⟩)) W6 from Sp.box hbn' hg6 hG6)
  have HV6:=zh (show (Sp.row (some lv)).holds (S1 S (w.heap.size+2)) vv W6 from Sp.below (Sp.ofS HV1.out) hb6)
  have HST6:=zh hst6
  have HW6:=zh hW6
  clear hval hrest hf8 hex hdf hsz h18 hbG hGB h5 hb6 ht3 hG0 hG hg6 hbn hbn' hst6 hG6 hW6 hhd
  simp only[spellH,List.drop_succ_cons,List.drop_zero,h8,h9]
  go_upto_region 2 with fail
  show Code.wp _ _ _ _ (set5 w3 G (.int .i64 k9) (.int .i64 m9) (.int .i64 d9) (.string s9) (.slice o9 len9 cap9))
  rw[HW6.out]
  clear p0 p1 p2 p3 p4 z0 z1 z2 z3 z4 pl HW6
  obtain ⟨p1,hp1,hn1,hrf⟩:=Sy.bnd_split HR4.out
  have HP1:=zh hp1
  have HNp1:=zh hn1
  have HRF:=zh hrf
  have HYL:=zh (show ∀l,p1.map (·.1)=some l→l.length≤999999 from fun l hl=>by
   match p1,hl,hp1 with
   | some (y,n'),hl,hp1=>
    obtain rfl:y=l:=Option.some.inj hl
    rw[Sy.all_len hp1]
    have:=HLL.out
    omega)
  clear hp1 hn1 hrf
  refine zad (dr:=true) (S:=S) (b:=b) (H:=(w.heap.size+2)) 7 [4] (fun j=>[n,cnt p1].getD j 0) [.dat (some (hh)),.one (some (hh)),.val (.pointer (some ⟨b,0,none⟩)),.row (some (lv)),.row (p1.map (·.1)),.row ((some (hh)).bind fun u_24=>(p1.map (·.1)).bind fun l_24=>some (u_24::l_24)),.dat (((some (hh)).bind fun u_24=>(p1.map (·.1)).bind fun l_24=>some (u_24::l_24)).map Dat.list)] HST6.out (by show zB _ _ 7 26=true;kernel_rfl) (by decide) (by decide) (by kernel_rfl) ?hops ?hcall ?hend
  case hops=>
   intro i o8 hi hip ho a8 w8 hdf hlt8 ht8 hdep hrest
   match i,hi,hip with
   | 0,_,_=>
    obtain rfl:_=o8:=Option.some.inj ho
    exact zak rfl (Sp.at hrest 9 (by kernel_rfl) (HEL.out) (.inl HST6.out.own) ht8)
   | 1,_,_=>
    obtain rfl:_=o8:=Option.some.inj ho
    exact zmq rfl (Sp.dep hdep 0 19 (by kernel_rfl)) hlt8
   | 2,_,_=>
    obtain rfl:_=o8:=Option.some.inj ho
    exact zab rfl (Sp.at hrest 0 (by kernel_rfl) (rfl) (.inl HST6.out.own) ht8)
   | 3,_,_=>
    obtain rfl:_=o8:=Option.some.inj ho
    exact zab rfl (Sp.at hrest 3 (by kernel_rfl) (HV6.out) (.inl HST6.out.own) ht8)
   | 4,_,h=>exact absurd (by decide) h
   | 5,_,_=>
    obtain rfl:_=o8:=Option.some.inj ho
    exact zjK rfl (Sp.dep hdep 1 20 (by kernel_rfl)) (Sp.dep hdep 4 23 (by kernel_rfl)) (fun l hl=>HYL.out l hl) hlt8
   | 6,_,_=>
    obtain rfl:_=o8:=Option.some.inj ho
    exact zb3 rfl (Sp.dep hdep 5 24 (by kernel_rfl)) hlt8
   | i+7,hi,_=>exact absurd hi (by omega)
  case hcall=>
   intro j i o8 hj ho a8 w8 hdf hst8 ht8 hdep hprev hrest
   match j,hj with
   | 0,hj=>
    obtain rfl:4=i:=Option.some.inj hj
    obtain rfl:_=o8:=Option.some.inj ho
    have hv0:a8.tmps.getD 21 undef=.pointer (some ⟨b,0,none⟩):=(Sp.dep hdep 2 21 (by kernel_rfl))
    refine zhZ (p:=p1) (vals:=#[.pointer (some ⟨b,0,none⟩),a8.tmps.getD 22 undef]) rfl (by simp only[List.map_toArray,List.map_cons,List.map_nil];rw[←hv0];rfl) (fun _ _=>rfl) (zbn HE.out (S1 S (w.heap.size+2)) b _ lv _ w8 p1 HP1.out hst8.lt (.inl hst8.own) hst8.hx hst8.hE (Sp.data (Sp.dep hdep 3 22 (by kernel_rfl))) HLL.out) fun hp w9 ht9=>?_
    have hrn:=HNp1.out hp
    subst hrn
    exact ⟨hdf,hst8.bad' ht9⟩
   | _+1,hj=>simp at hj
  case hend=>
   intro a8 w8 hdf hsz hst8 ht8 hval hrest
   obtain ⟨x8,hx8,hr8⟩:∃x8,((some (hh)).bind fun u_24=>(p1.map (·.1)).bind fun l_24=>some (u_24::l_24)).map Dat.list=some x8∧RepD (hide w8 (S1 S (w.heap.size+2))) w8.heap.size x8 (a8.tmps.getD 25 undef):=hval 6 _ 25 (by omega) rfl rfl
   rcases p1 with _ | ⟨y1,n1⟩
   ·simp at hx8
   have hx9:some (Dat.list (hh::y1))=some x8:=hx8
   obtain rfl:=Option.some.inj hx9
   have hrr:r=some (Dat.list (hh::y1),n1):=Sy.ret_split (HRF.out _ _ rfl)
   subst hrr
   obtain ⟨f8,ha,hf8⟩:=zaq [false,false,false,false,false,false,false,false,false,false,false,false,false,false,false,false,false,false,false,true,true,true,true,true,true,true] (by kernel_rfl) hdf hsz hrest
   rw[←hf8] at hr8
   subst ha
   obtain ⟨k8,m8,d8,s8,o8,len8,cap8,h8⟩:=zae hr8.unhide
   rw[h8] at hr8
   obtain ⟨p0,p1,p2,p3,p4⟩:=hst8.box.cells
   obtain ⟨z0,z1,z2,z3,z4⟩:=hst8.box.free
   have pl:=hst8.box.lt
   have HX8:=zh (show XS S b (w.heap.size+2) n1 w w8 from hst8)
   have H8:=zh hr8
   clear hval hrest hf8 hdf hsz hr8 hst8 ht8 hx8 hx9
   simp only[spellH,List.drop_succ_cons,List.drop_zero,h8]
   go_wp2_with fail
   have HR5:=zh (HX8.out.box.set (.int .i64 k8) (.int .i64 m8) (.int .i64 d8) (.string s8) (.slice o8 len8 cap8))
   obtain ⟨r0,r1,r2,r3,r4⟩:=HR5.out.cells
   refine bodyPost_ret (v:=.agg #[.int .i64 k8,.int .i64 m8,.int .i64 d8,.string s8,.slice o8 len8 cap8]) (by simp[results,results145,go_sem,r0,r1,r2,r3,r4]) rfl ?_
   exact HX8.out.fin H8.out
end
end Go.Proofs.YtnbjhmafnigefaaGreatDoor
