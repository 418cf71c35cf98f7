/- .. -/
import Derived.Test.YtnbjhmafnigefaaGreatDoorSmkA16
open Go.Proofs.Tryz
set_option maxRecDepth 100000
set_option maxHeartbeats 16000000
namespace Go.Proofs.YtnbjhmafnigefaaGreatDoor
section
open Go Go.RowKit
namespace Sy
open Dat
def Mk {α:Type} (P:α→Prop) (m:M α):Prop:=∀n y n',m n=some (some (y,n'))→P y
section
variable {α β : Type} {P : α → Prop} {Q : β → Prop}
theorem Mk.ret {a:α} (h:P a):Mk P (Sy.ret a):=fun n y n' he=>by cases he;exact h
theorem Mk.bad:Mk P (Sy.bad (α:=α)):=fun n y n' he=>by cases he
theorem Mk.bnd {m:M α} {f:α→M β} (h1:Mk P m) (h2:∀y,P y→Mk Q (f y)):Mk Q (Sy.bnd m f):=fun n y n' he=>by
 unfold Sy.bnd at he
 split at he
 ·cases he
 ·cases he
 ·rename_i a n1 hm
  exact h2 a (h1 n a n1 hm) n1 y n' he
theorem Mk.need {b:Bool} {m:M α} (h:b=true→Mk P m):Mk P (Sy.need b m):=by
 unfold Sy.need
 cases b with
 | true=>exact h rfl
 | false=>exact Mk.bad
theorem Mk.within {b:Bool} {m:M α} (h:Mk P m):Mk P (Sy.within b m):=fun n y n' he=>by
 unfold Sy.within at he
 split at he
 ·exact h n y n' he
 ·cases he
theorem Mk.none:Mk P (fun _=>Option.none):=fun n y n' he=>by cases he
end
structure Cl (I P:Dat→Prop):Prop where
 split:∀x,I x→(∀y∈(Sy.split x).1,I y)∧I (Sy.split x).2
 pair:∀x a f,I x→x.kind=6→x.l=[a,f]→I a∧I f
 list:∀l,(∀y∈l,I y)→I (Dat.list l)
 fresh:∀n,n≤1000000→I (freshD (n+1))∧isVar (freshD (n+1))=true
 eq:P (sym eqB)
 leaf:∀k n,k=1∨k=5→I (.mk k n 0 Dat.emptyB [])
 const:∀x,I x→P (const x)
 var:∀x,I x→isVar x=true→P x
 call:∀x l,P x→(∀y∈l,P y)→P (Dat.list (x::l))
 cond:∀a b c,P a→P b→P c→P (form ifB [a,b,c])
 begin:∀x l,P x→(∀y∈l,P y)→P (form beginB (x::l))
 lambda:∀f b,I f→formals f=true→P b→P (form lambdaB [f,b])
 set:∀x v,I x→isVar x=true→P v→P (form setB [x,v])
 letrec:∀k ns vs b,k=letrecB∨k=letrecSB→(∀y∈ns,I y)→distinct ns=true→ns.length=vs.length→(∀y∈vs,P y)→P b→P (form k [pairs ns vs,b])
section
variable {I P : Dat → Prop} {E : Dat → M Dat} {L : Dat → List Dat → M Dat}
def EK (I P:Dat→Prop) (E:Dat→M Dat):Prop:=∀x,I x→Mk P (E x)
def LK (I P:Dat→Prop) (L:Dat→List Dat→M Dat):Prop:=∀f b,I f→(∀y∈b,I y)→Mk P (L f b)
theorem Cl.void (C:Cl I P):P Sy.void:=C.const _ (C.leaf 5 0 (.inr rfl))
theorem Cl.truth (C:Cl I P) (n:Int):P (truth n):=C.const _ (C.leaf 1 n (.inl rfl))
theorem zcO {β:Type} {Q:β→Prop} (C:Cl I P) {f:Dat→M β} (h:∀v,I v→isVar v=true→Mk Q (f v)):Mk Q (Sy.bnd Sy.fresh f):=fun n y n' he=>by
 unfold Sy.bnd Sy.fresh at he
 by_cases hn:n≤1000000
 ·rw[if_pos hn] at he
  exact h _ (C.fresh n hn).1 (C.fresh n hn).2 (n+1) y n' he
 ·rw[if_neg hn] at he
  cases he
theorem zfZ (C:Cl I P):∀{l ns vs:List Dat},bindsL l=some (ns,vs)→(∀y∈l,I y)→(∀y∈ns,I y)∧∀y∈vs,I y
 | [],ns,vs,h,_=>by
  simp only[bindsL,Option.some.injEq,Prod.mk.injEq] at h
  obtain ⟨rfl,rfl⟩:=h
  exact ⟨fun y hy=>by simp at hy,fun y hy=>by simp at hy⟩
 | x::l,ns,vs,h,hs=>by
  have hpt:=(C.split x (hs x (by simp))).1
  simp only[bindsL] at h
  split at h
  ·rename_i a c hac
   split at h
   ·obtain ⟨p,hp,he⟩:=Option.map_eq_some_iff.1 h
    simp only[Prod.mk.injEq] at he
    obtain ⟨rfl,rfl⟩:=he
    obtain ⟨i2,i3⟩:=zfZ C (ns:=p.1) (vs:=p.2) hp fun y hy=>hs y (by simp[hy])
    rw[hac] at hpt
    exact ⟨List.forall_mem_cons.2 ⟨hpt a (by simp),i2⟩,List.forall_mem_cons.2 ⟨hpt c (by simp),i3⟩⟩
   ·cases h
  ·cases h
theorem zlK (C:Cl I P) {x:Dat} {ns vs:List Dat} (h:binds x=some (ns,vs)) (hs:I x):(∀y∈ns,I y)∧(∀y∈vs,I y)∧ns.length=vs.length:=by
 unfold binds at h
 split at h
 ·obtain ⟨i2,i3⟩:=zfZ C h (C.split x hs).1
  have hl:=bindsL_len h
  exact ⟨i2,i3,by omega⟩
 ·cases h
theorem zfh (C:Cl I P):∀{l ns vs ag:List Dat},steps l=some (ns,vs,ag)→(∀y∈l,I y)→(∀y∈ns,I y)∧(∀y∈vs,I y)∧∀y∈ag,I y
 | [],ns,vs,ag,h,_=>by
  simp only[steps,Option.some.injEq,Prod.mk.injEq] at h
  obtain ⟨rfl,rfl,rfl⟩:=h
  exact ⟨fun y hy=>by simp at hy,fun y hy=>by simp at hy,fun y hy=>by simp at hy⟩
 | x::l,ns,vs,ag,h,hs=>by
  have hpt:=(C.split x (hs x (by simp))).1
  simp only[steps] at h
  split at h
  ·split at h
   ·rename_i a c hac
    obtain ⟨p,hp,he⟩:=Option.map_eq_some_iff.1 h
    simp only[Prod.mk.injEq] at he
    obtain ⟨rfl,rfl,rfl⟩:=he
    obtain ⟨i3,i4,i5⟩:=zfh C (ns:=p.1) (vs:=p.2.1) (ag:=p.2.2) hp fun y hy=>hs y (by simp[hy])
    rw[hac] at hpt
    exact ⟨List.forall_mem_cons.2 ⟨hpt a (by simp),i3⟩,List.forall_mem_cons.2 ⟨hpt c (by simp),i4⟩,List.forall_mem_cons.2 ⟨hpt a (by simp),i5⟩⟩
   ·rename_i a c e hac
    obtain ⟨p,hp,he⟩:=Option.map_eq_some_iff.1 h
    simp only[Prod.mk.injEq] at he
    obtain ⟨rfl,rfl,rfl⟩:=he
    obtain ⟨i3,i4,i5⟩:=zfh C (ns:=p.1) (vs:=p.2.1) (ag:=p.2.2) hp fun y hy=>hs y (by simp[hy])
    rw[hac] at hpt
    exact ⟨List.forall_mem_cons.2 ⟨hpt a (by simp),i3⟩,List.forall_mem_cons.2 ⟨hpt c (by simp),i4⟩,List.forall_mem_cons.2 ⟨hpt e (by simp),i5⟩⟩
   ·cases h
  ·cases h
theorem zb5 (C:Cl I P) {x:Dat} {r:List Dat} {least:Nat} {c:List Dat} {b:Bool} (h:clause x r least=some (c,b)) (hx:I x):∀y∈c,I y:=by
 unfold clause at h
 split at h
 ·split at h
  ·simp only[Option.some.injEq,Prod.mk.injEq] at h
   obtain ⟨rfl,_⟩:=h
   exact (C.split x hx).1
  ·cases h
 ·cases h
theorem zdu (hE:EK I P E):∀l:List Dat,(∀y∈l,I y)→Mk (fun r=>r.length=l.length∧∀y∈r,P y) (all E l)
 | [],_=>Mk.ret ⟨rfl,fun y hy=>by simp at hy⟩
 | x::l,h=>by
  unfold all
  exact Mk.bnd (hE x (h x (by simp))) fun y hy=>Mk.bnd (zdu hE l fun z hz=>h z (by simp[hz])) fun r hr=>Mk.ret ⟨by simp[hr.1],List.forall_mem_cons.2 ⟨hy,hr.2⟩⟩
theorem zbo (C:Cl I P) (hE:EK I P E) (l:List Dat) (h:∀y∈l,I y):Mk P (begin E l):=by
 unfold begin
 refine Mk.need fun hb=>Mk.bnd (zdu hE l h) fun r hr=>Mk.ret ?_
 match r,l,hr,hb with
 | [],[],_,hb=>simp at hb
 | [],x::l,hr,_=>simp at hr
 | y::r,_,hr,_=>exact C.begin y r (hr.2 y (by simp)) fun z hz=>hr.2 z (by simp[hz])
theorem zjH (C:Cl I P) (hE:EK I P E) (hL:LK I P L) (x:Dat) (hx:I x) (m:M (Dat × Dat)) (hm:define E L x=some m):Mk (fun p=>I p.1∧P p.2) m:=by
 have h2:=(C.split x hx).1
 unfold define at hm
 split at hm
 ·cases hm
 ·rename_i h t hsp
  rw[hsp] at h2
  split at hm
  ·cases hm
   split
   ·exact Mk.bad
   ·exact Mk.bad
   ·rename_i name v r
    have htn:=h2 name (by simp)
    have htv:=h2 v (by simp)
    split
    ·rename_i hk
     split
     ·rename_i a f hl
      obtain ⟨ha,hf⟩:=C.pair name a f htn hk hl
      exact Mk.bnd (hL f (v::r) hf fun y hy=>h2 y (List.mem_cons_of_mem _ (List.mem_cons_of_mem _ hy))) fun y hy=>Mk.ret ⟨ha,hy⟩
     ·exact Mk.bad
    ·exact Mk.need fun _=>Mk.bnd (hE v htv) fun y hy=>Mk.ret ⟨htn,hy⟩
  ·cases hm
theorem zhX (C:Cl I P) (hE:EK I P E) (hL:LK I P L):∀(l names values:List Dat),(∀y∈l,I y)→names.length=values.length→(∀y∈names,I y)→(∀y∈values,P y)→Mk P (bodyF E L l names values)
 | [],_,_,_,_,_,_=>Mk.bad
 | x::r,names,values,h,hlen,hn,hv=>by
  have hx:=h x (by simp)
  have hr:∀y∈r,I y:=fun z hz=>h z (by simp[hz])
  unfold bodyF
  split
  ·rename_i m hm
   refine Mk.bnd (zjH C hE hL x hx m hm) fun p hp=>zhX C hE hL r (names++[p.1]) (values++[p.2]) hr (by simp[hlen]) ?_ ?_
   ·intro y hy
    rcases List.mem_append.1 hy with hy | hy
    ·exact hn y hy
    ·rw[List.mem_singleton.1 hy];exact hp.1
   ·intro y hy
    rcases List.mem_append.1 hy with hy | hy
    ·exact hv y hy
    ·rw[List.mem_singleton.1 hy];exact hp.2
  ·refine Mk.need fun hd=>Mk.bnd (P:=P) ?_ fun rest hrest=>Mk.ret ?_
   ·split
    ·exact hE x hx
    ·exact zbo C hE _ h
   ·split
    ·exact hrest
    ·exact C.letrec letrecSB names values rest (.inr rfl) hn hd hlen hv hrest
theorem zhD (C:Cl I P) (hE:EK I P E) (hL:LK I P L) (l:List Dat) (h:∀y∈l,I y):Mk P (body E L l):=
 zhX C hE hL l [] [] h rfl (fun y hy=>by simp at hy) fun y hy=>by simp at hy
theorem zkp (C:Cl I P) (hE:EK I P E) (hL:LK I P L) (f:Dat) (b:List Dat) (hf:I f) (h:∀y∈b,I y):Mk P (lambda E L f b):=by
 unfold lambda
 exact Mk.need fun hd=>Mk.bnd (zhD C hE hL b h) fun y hy=>Mk.ret (C.lambda f y hf hd hy)
theorem zdv (l:List Dat):formals (Dat.list l)=distinct l:=by
 unfold formals
 have:∀l:List Dat,split (Dat.list l)=(l,Dat.null):=fun l=>by
  induction l with
  | nil=>rfl
  | cons x l ih=>
   rw[show Dat.list (x::l)=Dat.pair x (Dat.list l) from rfl,Dat.pair,split_pair rfl,ih]
 rw[this]
 rfl
theorem zdy {v:Dat} (h:isVar v=true):distinct [v]=true:=by
 unfold distinct distinctF
 simp[h,distinctF]
theorem zeq (C:Cl I P) (hE:EK I P E) (v b a:Dat) (hv:I v) (hi:isVar v=true) (hb:P b) (ha:I a):Mk P (over E v b a):=by
 unfold over
 refine Mk.bnd (hE a ha) fun y hy=>Mk.ret (C.call _ [y] (C.lambda _ b (C.list [v] fun z hz=>?_) ?_ hb) fun z hz=>?_)
 ·rw[List.mem_singleton.1 hz];exact hv
 ·rw[zdv];exact zdy hi
 ·rw[List.mem_singleton.1 hz];exact hy
theorem zhC (C:Cl I P) (hE:EK I P E) (hL:LK I P L) (names values b:List Dat) (hn:∀y∈names,I y) (hv:∀y∈values,I y) (hb:∀y∈b,I y):Mk P (letF E L names values b):=by
 unfold letF
 exact Mk.need fun _=>Mk.bnd (hL (Dat.list names) b (C.list _ hn) hb) fun f hf=>Mk.bnd (zdu hE values hv) fun r hr=>Mk.ret (C.call f r hf hr.2)
theorem zf5 (C:Cl I P) (hE:EK I P E) (hL:LK I P L):∀(ns vs b:List Dat),(∀y∈ns,I y)→(∀y∈vs,I y)→(∀y∈b,I y)→Mk P (chainF E L ns vs b)
 | n::ns,v::vs,b,hn,hv,hb=>by
  unfold chainF
  exact Mk.need fun hi=>Mk.bnd (zf5 C hE hL ns vs b (fun z hz=>hn z (by simp[hz])) (fun z hz=>hv z (by simp[hz])) hb) fun r hr=>zeq C hE n r v (hn n (by simp)) hi hr (hv v (by simp))
 | [],vs,b,_,_,hb=>by
  unfold chainF
  exact zhC C hE hL [] [] b (fun z hz=>by simp at hz) (fun z hz=>by simp at hz) hb
 | n::ns,[],b,_,_,hb=>by
  unfold chainF
  exact zhC C hE hL [] [] b (fun z hz=>by simp at hz) (fun z hz=>by simp at hz) hb
theorem zhS (C:Cl I P) (hE:EK I P E) (f g:Dat) (values:List Dat) (hf:I f) (hi:isVar f=true) (hg:P g) (hv:∀y∈values,I y):Mk P (loopF E f g values):=by
 unfold loopF
 refine Mk.bnd (zdu hE values hv) fun r hr=>Mk.ret (C.call _ r ?_ hr.2)
 refine C.letrec letrecB [f] [g] f (.inl rfl) (fun z hz=>?_) (zdy hi) rfl (fun z hz=>?_) (C.var f hf hi)
 ·rw[List.mem_singleton.1 hz];exact hf
 ·rw[List.mem_singleton.1 hz];exact hg
theorem zdM (C:Cl I P) (x:Dat) (hx:I x) (f:List Dat→List Dat→M Dat) (h:∀ns vs,(∀y∈ns,I y)→(∀y∈vs,I y)→ns.length=vs.length→Mk P (f ns vs)):Mk P (orBad (binds x) f):=by
 unfold orBad
 split
 ·exact Mk.bad
 ·rename_i p hp
  obtain ⟨h2,h3,h4⟩:=zlK C (ns:=p.1) (vs:=p.2) hp hx
  exact h _ _ h2 h3 h4
theorem zju (C:Cl I P) (hE:EK I P E):∀(l:List Dat),(∀y∈l,I y)→Mk P (andF E l)
 | [],_=>by unfold andF;exact Mk.ret (C.truth 1)
 | [x],h=>by unfold andF;exact hE x (h x (by simp))
 | x::z::r,h=>by
  unfold andF
  exact Mk.bnd (hE x (h x (by simp))) fun a ha=>Mk.bnd (zju C hE (z::r) fun y hy=>h y (List.mem_cons_of_mem _ hy)) fun b hb=>Mk.ret (C.cond a b _ ha hb (C.truth 0))
theorem zlP (C:Cl I P) (hE:EK I P E):∀(l:List Dat),(∀y∈l,I y)→Mk P (orF E l)
 | [],_=>by unfold orF;exact Mk.ret (C.truth 0)
 | [x],h=>by unfold orF;exact hE x (h x (by simp))
 | x::z::r,h=>by
  unfold orF
  exact zcO C fun v hv hi=>Mk.bnd (zlP C hE (z::r) fun y hy=>h y (List.mem_cons_of_mem _ hy)) fun d hd=>zeq C hE v _ x hv hi (C.cond v v d (C.var v hv hi) (C.var v hv hi) hd) (h x (by simp))
theorem zhT (C:Cl I P) (hE:EK I P E):∀(l:List Dat),(∀y∈l,I y)→Mk P (condF E l)
 | [],_=>by unfold condF;exact Mk.ret C.void
 | x::r,h=>by
  have ih:=zhT C hE r fun y hy=>h y (List.mem_cons_of_mem _ hy)
  have hx:=h x (by simp)
  unfold condF
  split
  ·exact Mk.bad
  ·rename_i c hc
   exact zbo C hE c.tail fun y hy=>zb5 C hc hx y (List.mem_of_mem_tail hy)
  ·exact Mk.bad
  ·rename_i a hc
   have h2:=zb5 C hc hx
   exact zcO C fun v hv hi=>Mk.bnd ih fun d hd=>zeq C hE v _ a hv hi (C.cond v v d (C.var v hv hi) (C.var v hv hi) hd) (h2 a (by simp))
  ·rename_i a b t hc
   have h2:=zb5 C hc hx
   split
   ·split
    ·rename_i g
     refine zcO C fun v hv hi=>Mk.bnd (hE g (h2 g (by simp))) fun f hf=>Mk.bnd ih fun d hd=>zeq C hE v _ a hv hi (C.cond v _ d (C.var v hv hi) (C.call f [v] hf fun z hz=>?_) hd) (h2 a (by simp))
     rw[List.mem_singleton.1 hz];exact C.var v hv hi
    ·exact Mk.bad
   ·exact Mk.bnd (hE a (h2 a (by simp))) fun y hy=>Mk.bnd (zbo C hE (b::t) fun z hz=>h2 z (List.mem_cons_of_mem _ hz)) fun z hz=>Mk.bnd ih fun d hd=>Mk.ret (C.cond y z d hy hz hd)
theorem zjR (C:Cl I P) {v:Dat} (hv:I v) (hi:isVar v=true):∀l:List Dat,(∀y∈l,I y)→P (test v l)
 | [],_=>C.truth 0
 | x::l,h=>by
  have ih:=zjR C hv hi l fun y hy=>h y (List.mem_cons_of_mem _ hy)
  unfold test at ih ⊢
  simp only[List.foldr_cons]
  refine C.cond _ _ _ (C.call _ [v,Sy.const x] C.eq fun z hz=>?_) (C.truth 1) ih
  rcases List.mem_cons.1 hz with rfl | hz
  ·exact C.var _ hv hi
  ·rw[List.mem_singleton.1 hz];exact C.const x (h x (by simp))
theorem ze8 (C:Cl I P) (hE:EK I P E) {v:Dat} (hv:I v) (hi:isVar v=true):∀(l:List Dat),(∀y∈l,I y)→Mk P (choiceF E v l)
 | [],_=>by unfold choiceF;exact Mk.ret C.void
 | x::r,h=>by
  have ih:=ze8 C hE hv hi r fun y hy=>h y (List.mem_cons_of_mem _ hy)
  have hx:=h x (by simp)
  unfold choiceF
  split
  ·exact Mk.bad
  ·rename_i c hc
   exact zbo C hE c.tail fun y hy=>zb5 C hc hx y (List.mem_of_mem_tail hy)
  ·exact Mk.bad
  ·rename_i a t hc
   have h2:=zb5 C hc hx
   exact Mk.need fun _=>Mk.bnd (zbo C hE t fun z hz=>h2 z (List.mem_cons_of_mem _ hz)) fun b hb=>Mk.bnd ih fun d hd=>Mk.ret (C.cond _ b d (zjR C hv hi _ (C.split a (h2 a (by simp))).1) hb hd)
theorem zml (C:Cl I P) (hE:EK I P E) (b t:Dat) (l:List Dat) (hb:I b) (ht:I t) (hl:∀y∈l,I y):Mk P (doF E b t l):=by
 have ht2:=(C.split t ht).1
 have hb2:=(C.split b hb).1
 unfold doF
 refine Mk.need fun hg=>zcO C fun f hf hi=>?_
 split
 ·exact Mk.bad
 ·rename_i names values again hst
  obtain ⟨s3,s4,s5⟩:=zfh C hst hb2
  refine Mk.need fun hd=>?_
  obtain ⟨t0,ts,he⟩:∃t0 ts,(Sy.split t).1=t0::ts:=by
   simp only[Bool.and_eq_true,Bool.not_eq_true',List.isEmpty_eq_false_iff] at hg
   match h:(Sy.split t).1 with
   | []=>exact absurd h hg.2.2
   | t0::ts=>exact ⟨t0,ts,rfl⟩
  rw[he] at ht2 ⊢
  simp only[List.headD_cons,List.tail_cons]
  refine Mk.bnd (hE t0 (ht2 t0 (by simp))) fun test htest=>Mk.bnd (P:=P) ?_ fun out hout=>Mk.bnd (zbo C hE (l++[Dat.list (f::again)]) ?_) fun go hgo=>zhS C hE f _ values hf hi (C.lambda _ _ (C.list _ s3) (by rw[zdv];exact hd) (C.cond _ _ _ htest hout hgo)) s4
  ·show Mk P (if (t0::ts).tail.isEmpty=true then ret void else begin E ts)
   split
   ·exact Mk.ret C.void
   ·exact zbo C hE ts fun z hz=>ht2 z (List.mem_cons_of_mem _ hz)
  ·intro y hy
   rcases List.mem_append.1 hy with hy | hy
   ·exact hl y hy
   ·rw[List.mem_singleton] at hy
    subst hy
    exact C.list _ (List.forall_mem_cons.2 ⟨hf,s5⟩)
theorem zhu (C:Cl I P) (hE:EK I P E) (key:ByteArray) (l:List Dat) (h:∀y∈l,I y):Mk P (derivedF E key l):=by
 unfold derivedF
 split
 ·exact zju C hE l h
 split
 ·exact zlP C hE l h
 split
 ·split
  ·rename_i x y r
   exact Mk.bnd (hE x (h x (by simp))) fun a ha=>Mk.bnd (zbo C hE (y::r) fun z hz=>h z (List.mem_cons_of_mem _ hz)) fun b hb=>Mk.ret (C.cond _ _ _ ha hb C.void)
  ·exact Mk.bad
 split
 ·split
  ·rename_i x y r
   exact Mk.bnd (hE x (h x (by simp))) fun a ha=>Mk.bnd (zbo C hE (y::r) fun z hz=>h z (List.mem_cons_of_mem _ hz)) fun b hb=>Mk.ret (C.cond _ _ _ ha C.void hb)
  ·exact Mk.bad
 split
 ·exact zhT C hE l h
 split
 ·split
  ·rename_i x r
   exact zcO C fun v hv hi=>Mk.bnd (ze8 C hE hv hi r fun z hz=>h z (List.mem_cons_of_mem _ hz)) fun d hd=>zeq C hE v d x hv hi hd (h x (by simp))
  ·exact Mk.bad
 split
 ·split
  ·rename_i b t r
   exact zml C hE b t r (h b (by simp)) (h t (by simp)) fun z hz=>h z (by simp[hz])
  ·exact Mk.bad
 ·exact Mk.bad
theorem zlH (C:Cl I P) (hE:EK I P E) (hL:LK I P L) (key:ByteArray) (l:List Dat) (h:∀y∈l,I y):Mk P (formF E L key l):=by
 unfold formF
 split
 ·split
  ·rename_i x
   exact Mk.ret (C.const x (h x (by simp)))
  ·exact Mk.bad
 split
 ·split
  ·rename_i x y
   refine Mk.bnd (zdu hE [x,y] h) fun r hr=>Mk.ret ?_
   match r,hr with
   | [a,b],hr=>exact C.cond a b _ (hr.2 a (by simp)) (hr.2 b (by simp)) C.void
   | [],hr=>simp at hr
   | [_],hr=>simp at hr
   | _::_::_::_,hr=>simp at hr
  ·rename_i x y z
   refine Mk.bnd (zdu hE [x,y,z] h) fun r hr=>Mk.ret ?_
   match r,hr with
   | [a,b,c],hr=>exact C.cond a b c (hr.2 a (by simp)) (hr.2 b (by simp)) (hr.2 c (by simp))
   | [],hr=>simp at hr
   | [_],hr=>simp at hr
   | [_,_],hr=>simp at hr
   | _::_::_::_::_,hr=>simp at hr
  ·exact Mk.bad
 split
 ·split
  ·rename_i f b r
   exact hL f (b::r) (h f (by simp)) fun z hz=>h z (List.mem_cons_of_mem _ hz)
  ·exact Mk.bad
 split
 ·split
  ·rename_i x y
   exact Mk.need fun hi=>Mk.bnd (hE y (h y (by simp))) fun v hv=>Mk.ret (C.set x v (h x (by simp)) hi hv)
  ·exact Mk.bad
 split
 ·exact zbo C hE l h
 split
 ·rename_i hk
  split
  ·rename_i x b r
   refine zdM C x (h x (by simp)) _ fun ns vs hn hv hlen=>Mk.need fun hd=>?_
   exact Mk.bnd (zdu hE vs hv) fun vs' hvs=>Mk.bnd (zhD C hE hL (b::r) fun z hz=>h z (List.mem_cons_of_mem _ hz)) fun y hy=>Mk.ret (C.letrec key ns vs' y hk hn hd (by rw[hlen,hvs.1]) hvs.2 hy)
  ·exact Mk.bad
 split
 ·split
  ·rename_i x b r
   exact zdM C x (h x (by simp)) _ fun ns vs hn hv hlen=>zf5 C hE hL ns vs (b::r) hn hv fun z hz=>h z (List.mem_cons_of_mem _ hz)
  ·exact Mk.bad
 split
 ·split
  ·rename_i x b r
   split
   ·rename_i hi
    split
    ·rename_i c r'
     unfold namedF
     exact zdM C b (h b (by simp)) _ fun ns vs hn hv hlen=>Mk.need fun _=>Mk.bnd (hL (Dat.list ns) (c::r') (C.list _ hn) fun z hz=>h z (by simp at hz ⊢;exact .inr (.inr hz))) fun g hg=>zhS C hE x g vs (h x (by simp)) hi hg hv
    ·exact Mk.bad
   ·exact zdM C x (h x (by simp)) _ fun ns vs hn hv hlen=>zhC C hE hL ns vs (b::r) hn hv fun z hz=>h z (List.mem_cons_of_mem _ hz)
  ·exact Mk.bad
 ·exact zhu C hE key l h
theorem zlw (C:Cl I P) (hE:EK I P E) (hL:LK I P L) (x:Dat) (hx:I x):Mk P (exprF E L x):=by
 unfold exprF
 split
 ·exact Mk.need fun hi=>Mk.ret (C.var x hx hi)
 split
 ·exact Mk.bad
 split
 ·have h2:=(C.split x hx).1
  refine Mk.need fun _=>?_
  split
  ·exact Mk.bad
  ·rename_i h t hsp
   rw[hsp] at h2
   split
   ·exact zlH C hE hL h.s t fun z hz=>h2 z (List.mem_cons_of_mem _ hz)
   ·refine Mk.bnd (zdu hE (h::t) h2) fun r hr=>Mk.ret ?_
    match r,hr with
    | [],hr=>simp at hr
    | y::r,hr=>exact C.call y r (hr.2 y (by simp)) fun z hz=>hr.2 z (by simp[hz])
 ·exact Mk.ret (C.const x hx)
theorem zkd (C:Cl I P):∀f:Nat,EK I P (expr f)∧LK I P (lam f)
 | 0=>⟨fun _ _=>Mk.none,fun _ _ _ _=>Mk.none⟩
 | f+1=>by
  obtain ⟨hE,hL⟩:=zkd C f
  refine ⟨fun x hx=>?_,fun x b hx hb=>?_⟩
  ·unfold expr
   exact Mk.within (zlw C hE hL x hx)
  ·unfold lam
   exact Mk.within (zkp C hE hL x b hx hb)
theorem zh2 (C:Cl I P) (f:Nat) (l:List Dat) (h:∀y∈l,I y):Mk P (body (expr f) (lam f) l):=by
 obtain ⟨hE,hL⟩:=zkd C f
 exact zhD C hE hL l h
end
end Sy
end
section
open Go Go.RowKit
theorem zl2 {E:Dat→Sy.M Dat} (hE:EOk E):DoOk E:=by
 intro x t l S b n xv tv sl w r hr hsx hst hsm hll hS hb hx hV hxv htv hv
 unfold Sy.doF at hr
 obtain ⟨i1,i2⟩:=Sy.need_split hr
 cases hc:((Sy.split x).2.kind==4&&((Sy.split t).2.kind==4 && !(Sy.split t).1.isEmpty)) with
 | false=>
  obtain rfl:=i1 hc
  exact zha S b n x t xv tv l sl w _ _ rfl rfl hc hsx hst hS hb hx hV hxv htv hv
 | true=>
  simp only[Bool.and_eq_true] at hc
  obtain ⟨h1,h2,h3⟩:=hc
  match he:(Sy.split t).1 with
  | []=>rw[he] at h3;simp at h3
  | e0::es=>
   refine zkM hE S b n x t xv tv l sl w h1 h2 e0 es he hll r ?_ hsx hst hS hb hx hV hxv htv hv
   have h:=i2 (by rw[h1,h2,h3];rfl)
   rw[he] at h
   exact h
theorem zjA {E:Dat→Sy.M Dat} {L:Dat→List Dat→Sy.M Dat} (hE:EOk E) (hL:LOk L):BOk fun l=>Sy.within (l.all Sy.small&&decide (l.length≤100000)) (Sy.body E L l):=by
 intro S b n l sl w r hr hS hb hx hV hv hl
 unfold Sy.within at hr
 simp only at hr
 split at hr
 ·rename_i h
  simp only[Bool.and_eq_true,List.all_eq_true,decide_eq_true_eq] at h
  exact zd8 hE hL S b n l sl w r hr h.1 h.2 hS hb hx hV hv
 ·cases hr
theorem zgf:∀f:Nat,EOk (Sy.expr f)∧LOk (Sy.lam f)
 | 0=>⟨fun S b n x v w r hr=>(by cases hr),fun S b n f fv l sl w r hr=>(by cases hr)⟩
 | f+1=>by
  obtain ⟨hE,hL⟩:=zgf f
  refine ⟨?_,?_⟩
  ·intro S b n x v w r hr hS hb hx hV hv
   unfold Sy.expr Sy.within at hr
   split at hr
   ·rename_i hsm
    exact zka hE (zjL hE hL fun key l S b n sl w r hr hsm hll hS hb hx hV hv=>zgy hE (zgU hE) (zl2 hE) key l S b n sl w r hr hsm hll hS hb hx hV hv) S b n x v w r hr hsm hS hb hx hV hv
   ·cases hr
  ·intro S b n x fv l sl w r hr hS hb hx hV hfv hv
   unfold Sy.lam Sy.within at hr
   split at hr
   ·rename_i hsm
    simp only[Bool.and_eq_true,List.all_eq_true,decide_eq_true_eq] at hsm
    obtain ⟨h1,h2,h3⟩:=hsm
    refine zg3 (zjA hE hL) S b n x fv l sl w r ?_ hS hb hx hV hfv (Sy.small_iff.1 h1).1 (Sy.small_iff.1 h1).2 hv h3
    unfold Sy.lambda at hr
    have hw:(l.all Sy.small&&decide (l.length≤100000))=true:=by simp only[Bool.and_eq_true,List.all_eq_true,decide_eq_true_eq];exact ⟨h2,h3⟩
    unfold Sy.within
    simp only[hw,if_true]
    exact hr
   ·cases hr
end
section
open Go Go.RowKit
theorem zi3 (s:ByteArray) (w:World):Calls prog 84 #[.string s,.string ⟨#[37]⟩] w fun e w'=>e=.returned (.int .i64 (Lib.indexByte s.data.toList 37))∧w'=w:=by
 have h1:=zh (stringslite_Index_one s 37 w)
 go_enter func84,ntmps84
 go_wp2_with (go_at_call 105;refine h1.out.mono ?_;rintro e' w1 ⟨rfl,rfl⟩)
 go_ret
 exact ⟨rfl,rfl⟩
theorem zfE (s:ByteArray) (w:World):Calls prog 47 #[.string s,.string ⟨#[37]⟩] w fun e w'=>e=.returned (.bool (s.data.toList.contains 37))∧w'=w:=by
 have h1:=zi3 s w
 rw[Lib.contains_iff_indexByte]
 generalize Lib.indexByte s.data.toList 37=i at h1 ⊢
 have H1:=zh h1
 clear h1
 by_cases hi:0≤i
 ·rw[decide_eq_true hi]
  go_enter func47,ntmps47
  go_wp2_with (go_at_call 84;refine H1.out.mono ?_;rintro e' w1 ⟨rfl,rfl⟩)
  go_ret
  exact ⟨by simp[hi],rfl⟩
 ·rw[decide_eq_false hi]
  go_enter func47,ntmps47
  go_wp2_with (go_at_call 84;refine H1.out.mono ?_;rintro e' w1 ⟨rfl,rfl⟩)
  go_ret
  exact ⟨by simp[hi],rfl⟩
theorem zhx (l:List Dat):l.any Dat.marked=Dat.markedL l:=by
 induction l with
 | nil=>rfl
 | cons x l ih=>simp only[List.any_cons,Dat.markedL,ih]
theorem zhA:∀(x:Dat) (v:Value) (B:Nat) (w:World),RepD w B x v→B≤w.heap.size →
  Calls prog 27 #[v] w fun e w'=>e=.returned (.bool (Dat.marked x))∧Below w.heap.size w w':=by
 intro x
 induction x using Dat.ind with
 | h k n d s l ih=>
  intro v B w hv hB
  obtain ⟨sl,rfl,_,_,_,hsz,o,len,cap,rfl,hlen,hcap,hmax,hc⟩:=hv.open
  obtain ⟨W0,hW0⟩:∃W0,w.alloc (.cells #[.int .i64 k,.int .i64 n,.int .i64 d,.string s,.slice o len cap] 26)=W0:=⟨_,rfl⟩
  have hb:Box5 W0 w.heap.size 26 (.int .i64 k) (.int .i64 n) (.int .i64 d) (.string s) (.slice o len cap):=by rw[←hW0];exact Box5.new w _ _ _ _ _ _
  have hbl:Below w.heap.size w W0:=by rw[←hW0];exact Below.one _ _
  have HBL:=zh hbl
  have HC:=zh (zbd 27 #[] Dat.marked (Dat.markedL l) l (.slice o len cap) B W0 (RepS.kept (w:=w) ⟨o,len,cap,rfl,hlen,hcap,hmax,hc⟩ (hbl.mono hB)) (by have:=hbl.size;omega) (fun _ _=>by kernel_rfl) (fun y hy u W hu hbW=>by
   have:=(ih y hy u B W hu (by have:=hbl.size;have:=hbW.size;omega))
   simpa using this) (zhx l))
  have HK:=zh (zfE s W0)
  have hm0:Dat.marked (.mk k n d s l)=((decide (k=2)&&s.data.toList.contains 37) || Dat.markedL l):=by simp[Dat.marked]
  have HM:=zh hm0
  obtain ⟨i0,i1,i2,i3,i4⟩:=hb.cells
  have il:=hb.lt
  clear hm0 hb hbl ih hv hc hlen hcap hmax hsz
  by_cases hk:k=2
  ·subst hk
   cases hct:s.data.toList.contains 37 with
   | true=>
    rw[hct] at HM HK
    have HM:=zh (HM.out.trans (by simp:_=true))
    clear hct
    rw[HM.out]
    go_enter func27,ntmps27
    go_wp2_with (first | (go_at_call 47;refine HK.out.mono ?_;rintro e' w1 ⟨rfl,rfl⟩))
    go_ret
    exact ⟨rfl,HBL.out⟩
   | false=>
    rw[hct] at HM HK
    have HM:=zh (HM.out.trans (by simp:_=Dat.markedL l))
    clear hct
    rw[HM.out]
    generalize Dat.markedL l=r at HC ⊢
    go_enter func27,ntmps27
    go_wp2_with (first | (go_at_call 47;refine HK.out.mono ?_;rintro e' w1 ⟨rfl,rfl⟩) | (go_at_call 24;refine HC.out.mono ?_;rintro e' w1 ⟨rfl,hb1⟩))
    go_ret
    exact ⟨rfl,Below.next HBL.out hb1⟩
  ·have HM:=zh (HM.out.trans (by simp[hk]:_=Dat.markedL l))
   rw[HM.out]
   generalize Dat.markedL l=r at HC ⊢
   go_enter func27,ntmps27
   go_wp2_with (first | (go_at_call 24;refine HC.out.mono ?_;rintro e' w1 ⟨rfl,hb1⟩))
   go_ret
   exact ⟨rfl,Below.next HBL.out hb1⟩
end
section
open Go Go.RowKit
theorem zhJ {w1:World} {B:Nat} {l:List Dat} {o:Option Addr} {len cap:Nat} (h:RepS w1 B l (.slice o len cap)) (hB:B≤w1.heap.size) {j:Nat} {x:Dat} (hx:l[j]?=some x) :
  ∃b off k n d s o' len' cap',o=some ⟨b,off,none⟩∧x.kind=k∧x.s=s∧b<w1.heap.size∧∀W,Below w1.heap.size w1 W→W.cell? ⟨b,off+j*5,none⟩=some (.int .i64 k)∧W.cell? ⟨b,off+j*5+1,none⟩=some (.int .i64 n)∧W.cell? ⟨b,off+j*5+2,none⟩=some (.int .i64 d)∧W.cell? ⟨b,off+j*5+3,none⟩=some (.string s)∧W.cell? ⟨b,off+j*5+4,none⟩=some (.slice o' len' cap')∧RepD W W.heap.size x (.agg #[.int .i64 k,.int .i64 n,.int .i64 d,.string s,.slice o' len' cap']):=by
 obtain ⟨o0,len0,cap0,he,_,_,_,hc⟩:=h
 cases he
 obtain ⟨b,off,k,n,d,s,l',o',len',cap',ho,rfl,e0,e1,e2,e3,e4,er⟩:=zay hc (Below.refl _ _) hx
 have hlt:=zai e0
 refine ⟨b,off,k,n,d,s,o',len',cap',ho,rfl,rfl,hlt,fun W hW=>?_⟩
 have hk:=fun i=>zbV hW b i hlt
 refine ⟨(hk _).trans e0,(hk _).trans e1,(hk _).trans e2,(hk _).trans e3,(hk _).trans e4,(er.kept (hW.mono hB)).wider (by have:=hW.size;omega)⟩
theorem zio {W:World} {B:Nat} {l:List Dat} {b off len cap:Nat} (h:RepS W B l (.slice (some ⟨b,off,none⟩) len cap)) (k:Nat) (hk:k<len):RepS W B (l.drop k) (.slice (some ⟨b,off+k*5,none⟩) (len-k) (cap-k)):=by
 obtain ⟨o0,len0,cap0,he,hlen,hcap,hmax,hc⟩:=h
 cases he
 have hne:l≠[]:=by rintro rfl;simp at hlen;omega
 exact ⟨_,_,_,rfl,by rw[List.length_drop,hlen],by omega,by omega,fun _=>⟨rfl,(hc.1 hne).2⟩,zet k l _ hc.2⟩
theorem zeU {x:Dat} (hb:Sy.binds x=none) (hsh:Dat.shaped x=true) (hal:Dat.all x≤100000) (W:World) (v:Value) (hv:RepD W W.heap.size x v) :
  Calls prog 76 #[v] W fun e w'=>∃(ln lv:List Dat) (vn:Value) (o:Option Addr) (len cap:Nat),e=.returned (.tuple #[vn,.slice o len cap,.bool false])∧GrownS w' (SR (fun _=>False) (.slice o len cap)) W.heap.size ln vn∧GrownS w' (SR (fun _=>False) vn) W.heap.size lv (.slice o len cap)∧Below W.heap.size W w'∧lv.length≤100000:=by
 refine (zbv (fun _=>False) x v W.heap.size W (fun _ h=>h.elim) (hv.dug fun _ h=>h.elim) (Nat.le_refl _) hsh hal).mono ?_
 rintro e w' ⟨ln,lv,vn,vv,ok,rfl,h1,h2,h3,h4,h5,h6⟩
 obtain ⟨o,len,cap,rfl, -, -⟩:=h2.form
 obtain rfl:ok=false:=by
  cases ok with
  | false=>rfl
  | true=>have:=h4 rfl;rw[hb] at this;cases this
 exact ⟨ln,lv,vn,o,len,cap,rfl,h1,h2,h3,h6⟩
theorem zcv {x:Dat} {ns vs:List Dat} (hb:Sy.binds x=some (ns,vs)) (hsh:Dat.shaped x=true) (hal:Dat.all x≤100000) (W:World) (v:Value) (hv:RepD W W.heap.size x v) :
  Calls prog 76 #[v] W fun e w'=>∃(vn:Value) (o:Option Addr) (len cap:Nat),e=.returned (.tuple #[vn,.slice o len cap,.bool true])∧GrownS w' (SR (fun _=>False) (.slice o len cap)) W.heap.size ns vn∧GrownS w' (SR (fun _=>False) vn) W.heap.size vs (.slice o len cap)∧Below W.heap.size W w'∧vs.length≤100000:=by
 refine (zbv (fun _=>False) x v W.heap.size W (fun _ h=>h.elim) (hv.dug fun _ h=>h.elim) (Nat.le_refl _) hsh hal).mono ?_
 rintro e w' ⟨ln,lv,vn,vv,ok,rfl,h1,h2,h3,h4,h5,h6⟩
 obtain ⟨o,len,cap,rfl, -, -⟩:=h2.form
 obtain rfl:ok=true:=by
  cases ok with
  | true=>rfl
  | false=>have:=h5 rfl;rw[hb] at this;cases this
 have h7:=h4 rfl
 rw[hb] at h7
 simp only[Option.some.injEq,Prod.mk.injEq] at h7
 obtain ⟨rfl,rfl⟩:=h7
 exact ⟨vn,o,len,cap,rfl,h1,h2,h3,h6⟩
theorem zbx {wN wB:World} {vn vv:Value} {ln lv:List Dat} (hg1:GrownS wB (SR (fun _=>False) vv) wN.heap.size ln vn) (hg2:GrownS wB (SR (fun _=>False) vn) wN.heap.size lv vv) (hb:Below wN.heap.size wN wB) {x:Dat} {c0 c1 c2 c3 c4:Value} (he:RepD wN wN.heap.size x (.agg #[c0,c1,c2,c3,c4])) :
  Hid (RepS (hide (wB.alloc (.cells #[c0,c1,c2,c3,c4] 26)) (SR (SR (fun _=>False) vn) vv)) (wB.alloc (.cells #[c0,c1,c2,c3,c4] 26)).heap.size [x] (.slice (some ⟨wB.heap.size,0,none⟩) 1 1))∧Hid (GrownS (wB.alloc (.cells #[c0,c1,c2,c3,c4] 26)) (SR (fun _=>False) vn) wN.heap.size lv vv):=by
 have hS:∀b,SR (SR (fun _=>False) vn) vv b→wN.heap.size≤b∧b<wB.heap.size:=fun b h=>by
  rcases h with (h | h) | h
  ·exact h.elim
  ·exact hg1.block h
  ·exact hg2.block h
 exact ⟨zh (zaA (fun b h=>(hS b h).2) (((he.kept hb).dug fun b h=>(hS b h).1).wider hb.size)),zh (hg2.below (Below.one _ _))⟩
def CoreAt (C:Dat→Bool) (y:Dat):Prop:=∀(v:Value) (B:Nat) (w:World),RepD w B y v→B≤w.heap.size→Calls prog 40 #[v] w fun e w'=>e=.returned (.bool (C y))∧Below w.heap.size w w'
theorem ziM {C:Dat→Bool} {y:Dat} (hy:CoreAt C y) (v:Value) (B:Nat) (w:World) (hv:RepD w B y v) (hB:B≤w.heap.size) :
  Calls prog 77 #[v] w fun e w'=>e=.returned (.bool (!C y))∧Below w.heap.size w w':=by
 obtain ⟨k,n,d,s,o,len,cap,rfl⟩:=zae hv
 obtain ⟨W0,hW0⟩:∃W0,w.alloc (.cells #[.int .i64 k,.int .i64 n,.int .i64 d,.string s,.slice o len cap] 26)=W0:=⟨_,rfl⟩
 have hb:Box5 W0 w.heap.size 26 (.int .i64 k) (.int .i64 n) (.int .i64 d) (.string s) (.slice o len cap):=by rw[←hW0];exact Box5.new w _ _ _ _ _ _
 have hbl:Below w.heap.size w W0:=by rw[←hW0];exact Below.one _ _
 have HBL:=zh hbl
 have HC:=zh (hy _ B W0 (hv.kept (hbl.mono hB)) (by have:=hbl.size;omega))
 obtain ⟨i0,i1,i2,i3,i4⟩:=hb.cells
 have il:=hb.lt
 generalize C y=r at HC ⊢
 clear hv hb hbl hB hy
 go_enter func77,ntmps77
 go_wp2_with (first | (go_at_call 40;refine HC.out.mono ?_;rintro e' w1 ⟨rfl,hb1⟩))
 go_ret
 exact ⟨rfl,Below.next HBL.out hb1⟩
theorem zl6 (C:Dat→Bool) (l:List Dat):(l.any fun y=>!C y) = !l.all C:=by
 induction l with
 | nil=>rfl
 | cons x l ih=>rw[List.any_cons,List.all_cons,ih,Bool.not_and]
theorem zaP {C:Dat→Bool} {l:List Dat} (hl:∀y∈l,CoreAt C y) {r:Bool} (hr:l.all C=r) (sl:Value) (W:World) (h:RepS W W.heap.size l sl) :
  Calls prog 24 #[sl,.func (.func 77) #[] #[]] W fun e w'=>e=.returned (.bool (!r))∧Below W.heap.size W w':=
 zbd 77 #[] (fun y=>!C y) (!r) l sl W.heap.size W h (Nat.le_refl _) (fun _ _=>by kernel_rfl)
  (fun y hy u W' hu hbW=>by
   have:=ziM (hl y hy) u W.heap.size W' hu hbW.size
   simpa using this)
  (by rw[zl6,hr])
def CIn (x h:Dat) (t:List Dat) (v:Value) (w:World):Prop:=(∃B,RepD w B x v∧B≤w.heap.size)∧Dat.shaped x=true∧Dat.all x≤100000∧x.kind≠2∧(Sy.split x).2.kind=4∧(Sy.split x).1=h::t
def COut (r:Bool) (v:Value) (w:World):Prop:=Calls prog 40 #[v] w fun e w'=>e=.returned (.bool r)∧Below w.heap.size w w'
theorem zaN {x h:Dat} {t:List Dat} {v:Value} {w:World} (hin:CIn x h t v w):∃k n d s o len cap W0,v=.agg #[.int .i64 k,.int .i64 n,.int .i64 d,.string s,.slice o len cap]∧w.alloc (.cells #[.int .i64 k,.int .i64 n,.int .i64 d,.string s,.slice o len cap] 26)=W0 ∧
  (W0.cell? ⟨w.heap.size,0,none⟩=some (.int .i64 k)∧W0.cell? ⟨w.heap.size,1,none⟩=some (.int .i64 n)∧W0.cell? ⟨w.heap.size,2,none⟩=some (.int .i64 d)∧W0.cell? ⟨w.heap.size,3,none⟩=some (.string s)∧W0.cell? ⟨w.heap.size,4,none⟩=some (.slice o len cap))∧w.heap.size<W0.heap.size∧(k==2)=false∧Hid (Below w.heap.size w W0) ∧
  Hid (Calls prog 73 #[.agg #[.int .i64 k,.int .i64 n,.int .i64 d,.string s,.slice o len cap]] W0 fun e w1=>∃bb ob len1 cap1 kh nh dh sh oh lh ch,e=.returned (.tuple #[.slice (some ⟨bb,ob,none⟩) len1 cap1,.bool true])∧h.kind=kh∧h.s=sh ∧
   (w1.cell? ⟨bb,ob,none⟩=some (.int .i64 kh)∧w1.cell? ⟨bb,ob+1,none⟩=some (.int .i64 nh)∧w1.cell? ⟨bb,ob+2,none⟩=some (.int .i64 dh)∧w1.cell? ⟨bb,ob+3,none⟩=some (.string sh)∧w1.cell? ⟨bb,ob+4,none⟩=some (.slice oh lh ch))∧0<len1∧((len1:Int)==0)=false∧Hid (len1=(h::t).length) ∧
   Hid (RepS w1 w1.heap.size (h::t) (.slice (some ⟨bb,ob,none⟩) len1 cap1)) ∧
   Hid (∀W,Below w1.heap.size w1 W→W.cell? ⟨bb,ob,none⟩=some (.int .i64 kh)∧W.cell? ⟨bb,ob+1,none⟩=some (.int .i64 nh)∧W.cell? ⟨bb,ob+2,none⟩=some (.int .i64 dh)∧W.cell? ⟨bb,ob+3,none⟩=some (.string sh)∧W.cell? ⟨bb,ob+4,none⟩=some (.slice oh lh ch)) ∧
   Hid (Below w.heap.size w w1)∧Hid (Below w1.heap.size w1 w1)∧Hid (∀(c:ByteArray) (r:Bool) (W:World),Sy.isNm h c=r→Calls prog 74 #[.agg #[.int .i64 kh,.int .i64 nh,.int .i64 dh,.string sh,.slice oh lh ch],.string c] W fun e w'=>e=.returned (.bool r)∧Below W.heap.size W w')):=by
 obtain ⟨⟨B,hv,hB⟩,hsh,hal,hkd,h4,hsp⟩:=hin
 obtain ⟨k,n,d,s,o,len,cap,rfl⟩:=zae hv
 obtain ⟨W0,hW0⟩:∃W0,w.alloc (.cells #[.int .i64 k,.int .i64 n,.int .i64 d,.string s,.slice o len cap] 26)=W0:=⟨_,rfl⟩
 have hb:Box5 W0 w.heap.size 26 (.int .i64 k) (.int .i64 n) (.int .i64 d) (.string s) (.slice o len cap):=by rw[←hW0];exact Box5.new w _ _ _ _ _ _
 have hbl:Below w.heap.size w W0:=by rw[←hW0];exact Below.one _ _
 have hit:=zbm (fun _=>False) x _ B W0 true (by simp[h4]) (fun _ h=>h.elim) ((hv.kept (hbl.mono hB)).dug (fun _ h=>h.elim)) (by have:=hbl.size;omega) hsh hal
 rw[hsp] at hit
 refine ⟨k,n,d,s,o,len,cap,W0,rfl,hW0,hb.cells,hb.lt,by rw[←zaJ hv];simp[hkd],zh hbl,zh (hit.mono ?_)⟩
 rintro e w1 ⟨o1,len1,cap1,rfl,hr1,hb1⟩
 obtain ⟨bb,ob,kh,nh,dh,sh,oh,lh,ch,rfl,hkh,hsn,hbb,hel⟩:=zhJ hr1.unhide (Nat.le_refl _) (show (h::t)[0]?=some h from rfl)
 simp only[Nat.zero_mul,Nat.add_zero] at hel
 have hl1:len1=(h::t).length:=(zbj hr1).1
 have hl0:0<len1:=by rw[hl1];exact Nat.succ_pos _
 have hel':∀W,Below w1.heap.size w1 W→W.cell? ⟨bb,ob,none⟩=some (.int .i64 kh)∧W.cell? ⟨bb,ob+1,none⟩=some (.int .i64 nh)∧W.cell? ⟨bb,ob+2,none⟩=some (.int .i64 dh)∧W.cell? ⟨bb,ob+3,none⟩=some (.string sh)∧W.cell? ⟨bb,ob+4,none⟩=some (.slice oh lh ch):=fun W hW=>by
  obtain ⟨a0,a1,a2,a3,a4, -⟩:=hel W hW
  exact ⟨a0,a1,a2,a3,a4⟩
 exact ⟨bb,ob,len1,cap1,kh,nh,dh,sh,oh,lh,ch,rfl,hkh,hsn,hel' w1 (Below.refl _ _),hl0,beq_eq_false_iff_ne.2 (by omega),zh hl1,zh hr1.unhide,zh hel',zh (Below.next hbl hb1),zh (Below.refl _ _),zh fun c r W hr=>zjz kh nh dh sh c oh lh ch W r (by rw[←hkh,←hsn];exact hr)⟩
theorem zbb {w1:World} {l:List Dat} {bb ob len cap j:Nat} {f:Dat} (h:RepS w1 w1.heap.size l (.slice (some ⟨bb,ob,none⟩) len cap)) (hf:l[j]?=some f) (q0 q1 q2 q3 q4:Nat) (h0:ob+j*5=q0) (h1:ob+j*5+1=q1) (h2:ob+j*5+2=q2) (h3:ob+j*5+3=q3) (h4:ob+j*5+4=q4):∃k n d s o len' cap',Hid (∀W,Below w1.heap.size w1 W→W.cell? ⟨bb,q0,none⟩=some (.int .i64 k)∧W.cell? ⟨bb,q1,none⟩=some (.int .i64 n)∧W.cell? ⟨bb,q2,none⟩=some (.int .i64 d)∧W.cell? ⟨bb,q3,none⟩=some (.string s)∧W.cell? ⟨bb,q4,none⟩=some (.slice o len' cap')∧RepD W W.heap.size f (.agg #[.int .i64 k,.int .i64 n,.int .i64 d,.string s,.slice o len' cap'])):=by
 obtain ⟨b2,o2,k,n,d,s,o,len',cap',he, -, -, -,hel⟩:=zhJ h (Nat.le_refl _) hf
 cases he
 subst h0 h1 h2 h3 h4
 exact ⟨k,n,d,s,o,len',cap',zh hel⟩
theorem zbR {w1:World} {l:List Dat} {bb ob len cap:Nat} (h:RepS w1 w1.heap.size l (.slice (some ⟨bb,ob,none⟩) len cap)) (k q:Nat) (hk:k<l.length) (hq:ob+k*5=q):Hid (RepS w1 w1.heap.size (l.drop k) (.slice (some ⟨bb,q,none⟩) (len-k) (cap-k)))∧k<cap∧¬cap=k∧cap-k≠0:=by
 have hl:=zbj h
 subst hq
 exact ⟨zh (zio h k (by omega)),by omega,by omega,by omega⟩
theorem zjf {C:Dat→Bool} {x:Dat} {v:Value} {w:World} {B:Nat} (hv:RepD w B x v) (hB:B≤w.heap.size) (hsh:Dat.shaped x=true) (hal:Dat.all x≤100000) (hkd:x.kind=2):COut (Sy.isVar x) v w:=by
 obtain ⟨k,n,d,s,o,len,cap,rfl⟩:=zae hv
 obtain ⟨W0,hW0⟩:∃W0,w.alloc (.cells #[.int .i64 k,.int .i64 n,.int .i64 d,.string s,.slice o len cap] 26)=W0:=⟨_,rfl⟩
 have hb:Box5 W0 w.heap.size 26 (.int .i64 k) (.int .i64 n) (.int .i64 d) (.string s) (.slice o len cap):=by rw[←hW0];exact Box5.new w _ _ _ _ _ _
 have hbl:Below w.heap.size w W0:=by rw[←hW0];exact Below.one _ _
 have HBL:=zh hbl
 have hkk:=zaJ hv
 have hk2:(k==2)=true:=by rw[←hkk];simp[hkd]
 have HV:=zh (fun w=>zaM (w:=w) x _ hv)
 generalize Sy.isVar x=r at HV ⊢
 obtain ⟨i0,i1,i2,i3,i4⟩:=hb.cells
 have il:=hb.lt
 unfold COut
 clear hv hb hbl hkk hB hsh hal hkd
 go_enter func40,ntmps40
 go_wp2_with (first | (go_at_call 72;refine (HV.out _).mono ?_;rintro e' w1 ⟨rfl,hb1⟩) | fail)
 go_ret
 exact ⟨rfl,Below.next HBL.out hb1⟩
theorem zeR {C:Dat→Bool} {x:Dat} {v:Value} {w:World} {B:Nat} (hv:RepD w B x v) (hB:B≤w.heap.size) (hsh:Dat.shaped x=true) (hal:Dat.all x≤100000) (hkd:x.kind≠2) (h4:(Sy.split x).2.kind≠4):COut false v w:=by
 obtain ⟨k,n,d,s,o,len,cap,rfl⟩:=zae hv
 obtain ⟨W0,hW0⟩:∃W0,w.alloc (.cells #[.int .i64 k,.int .i64 n,.int .i64 d,.string s,.slice o len cap] 26)=W0:=⟨_,rfl⟩
 have hb:Box5 W0 w.heap.size 26 (.int .i64 k) (.int .i64 n) (.int .i64 d) (.string s) (.slice o len cap):=by rw[←hW0];exact Box5.new w _ _ _ _ _ _
 have hbl:Below w.heap.size w W0:=by rw[←hW0];exact Below.one _ _
 have HBL:=zh hbl
 have hkk:=zaJ hv
 have hk2:(k==2)=false:=by rw[←hkk];simp[hkd]
 have hit:=zbm (fun _=>False) x _ B W0 false (by simp[h4]) (fun _ h=>h.elim) ((hv.kept (hbl.mono hB)).dug (fun _ h=>h.elim)) (by have:=hbl.size;omega) hsh hal
 have HIT:=zh hit
 obtain ⟨i0,i1,i2,i3,i4⟩:=hb.cells
 have il:=hb.lt
 unfold COut
 clear hv hb hbl hkk hB hsh hal hkd hit h4
 go_enter func40,ntmps40
 go_wp2_with (first | (go_at_call 73;refine HIT.out.mono ?_;rintro e' w1 ⟨o1,len1,cap1,rfl,hr1,hb1⟩) | fail)
 go_ret
 exact ⟨rfl,Below.next HBL.out hb1⟩
theorem zht {C:Dat→Bool} {x:Dat} {v:Value} {w:World} {B:Nat} (hv:RepD w B x v) (hB:B≤w.heap.size) (hsh:Dat.shaped x=true) (hal:Dat.all x≤100000) (hkd:x.kind≠2) (h4:(Sy.split x).2.kind=4) (hsp:(Sy.split x).1=[]):COut false v w:=by
 obtain ⟨k,n,d,s,o,len,cap,rfl⟩:=zae hv
 obtain ⟨W0,hW0⟩:∃W0,w.alloc (.cells #[.int .i64 k,.int .i64 n,.int .i64 d,.string s,.slice o len cap] 26)=W0:=⟨_,rfl⟩
 have hb:Box5 W0 w.heap.size 26 (.int .i64 k) (.int .i64 n) (.int .i64 d) (.string s) (.slice o len cap):=by rw[←hW0];exact Box5.new w _ _ _ _ _ _
 have hbl:Below w.heap.size w W0:=by rw[←hW0];exact Below.one _ _
 have HBL:=zh hbl
 have hkk:=zaJ hv
 have hk2:(k==2)=false:=by rw[←hkk];simp[hkd]
 have hit:=zbm (fun _=>False) x _ B W0 true (by simp[h4]) (fun _ h=>h.elim) ((hv.kept (hbl.mono hB)).dug (fun _ h=>h.elim)) (by have:=hbl.size;omega) hsh hal
 rw[hsp] at hit
 have HIT:=zh hit
 obtain ⟨i0,i1,i2,i3,i4⟩:=hb.cells
 have il:=hb.lt
 unfold COut
 clear hv hb hbl hkk hB hsh hal hkd hit h4 hsp
 go_enter func40,ntmps40
 go_wp2_with (first | (go_at_call 73;refine HIT.out.mono ?_;rintro e' w1 ⟨o1,len1,cap1,rfl,hr1,hb1⟩;obtain rfl:len1=0:=(zbj hr1).1;clear hr1) | fail)
 go_ret
 exact ⟨rfl,Below.next HBL.out hb1⟩
theorem zg0 {C:Dat→Bool} {x:Dat} {h:Dat} {t:List Dat} {v:Value} {w:World} (hin:CIn x h (t) v w) (hh:h.kind≠2) (hC:∀y∈h::t,CoreAt C y):COut ((h::t).all C) v w:=by
 obtain ⟨k,n,d,s,o,len,cap,W0,rfl,hW0,⟨i0,i1,i2,i3,i4⟩,il,hk2,HBL,HIT⟩:=zaN hin
 obtain ⟨r,hr⟩:∃r,(h::t).all C=r:=⟨_,rfl⟩
 have HC:=zh (zaP hC hr)
 rw[hr]
 have HH:=zh hh
 unfold COut
 clear hin hh hC hr
 go_enter func40,ntmps40
 go_wp2_with (first | (go_at_call 73;refine HIT.out.mono ?_;rintro e' w1 ⟨bb,ob,len1,cap1,kh,nh,dh,sh,oh,lh,ch,rfl,hkh,hsn,⟨e0,e1,e2,e3,e4⟩,hl0,hz,HL1,HR1,HEL,HB1,HBW,HIS⟩;have hkq:(kh != 2)=true:=(by rw[←hkh];exact bne_iff_ne.2 HH.out);clear hkh hsn) | (go_at_call 24;refine (HC.out _ _ HR1.out).mono ?_;rintro e' w2 ⟨rfl,hb2⟩) | fail)
 go_ret
 exact ⟨rfl,Below.next HB1.out hb2⟩
theorem zgS {C:Dat→Bool} {x:Dat} {h:Dat} {t:List Dat} {v:Value} {w:World} (hin:CIn x h (t) v w) (hh:h.kind=2) (hkey:Sy.keyword h.s=false) (hC:∀y∈h::t,CoreAt C y):COut ((h::t).all C) v w:=by
 obtain ⟨k,n,d,s,o,len,cap,W0,rfl,hW0,⟨i0,i1,i2,i3,i4⟩,il,hk2,HBL,HIT⟩:=zaN hin
 obtain ⟨r,hr⟩:∃r,(h::t).all C=r:=⟨_,rfl⟩
 have HC:=zh (zaP hC hr)
 rw[hr]
 have HKY:=zh hkey
 have HH:=zh hh
 unfold COut
 clear hin hh hkey hC hr
 go_enter func40,ntmps40
 go_wp2_with (first | (go_at_call 73;refine HIT.out.mono ?_;rintro e' w1 ⟨bb,ob,len1,cap1,kh,nh,dh,sh,oh,lh,ch,rfl,hkh,hsn,⟨e0,e1,e2,e3,e4⟩,hl0,hz,HL1,HR1,HEL,HB1,HBW,HIS⟩;have hkq:(kh != 2)=false:=(by rw[←hkh,HH.out];rfl);rw[hsn] at HKY;clear hkh hsn) | (go_at_call 20;refine (zap sh false HKY.out _).mono ?_;rintro e' wN ⟨rfl,rfl⟩) | (go_at_call 24;refine (HC.out _ _ HR1.out).mono ?_;rintro e' w2 ⟨rfl,hb2⟩) | fail)
 go_ret
 exact ⟨rfl,Below.next HB1.out hb2⟩
theorem zgz {C:Dat→Bool} {x:Dat} {h:Dat} {y:Dat} {v:Value} {w:World} (hin:CIn x h ([y]) v w) (hh:h.kind=2) (hkey:Sy.keyword h.s=true) (hi0:Sy.isNm h ⟨#[113,117,111,116,101]⟩=true):COut true v w:=by
 obtain ⟨k,n,d,s,o,len,cap,W0,rfl,hW0,⟨i0,i1,i2,i3,i4⟩,il,hk2,HBL,HIT⟩:=zaN hin
 have HKY:=zh hkey
 have HH:=zh hh
 unfold COut
 clear hin hh hkey
 go_enter func40,ntmps40
 go_wp2_with (first | (go_at_call 73;refine HIT.out.mono ?_;rintro e' w1 ⟨bb,ob,len1,cap1,kh,nh,dh,sh,oh,lh,ch,rfl,hkh,hsn,⟨e0,e1,e2,e3,e4⟩,hl0,hz,HL1,HR1,HEL,HB1,HBW,HIS⟩;have hkq:(kh != 2)=false:=(by rw[←hkh,HH.out];rfl);rw[hsn] at HKY;clear hkh hsn;have hn2:((len1:Int)==2)=true:=(by rw[HL1.out];rfl)) | (go_at_call 20;refine (zap sh true HKY.out _).mono ?_;rintro e' wN ⟨rfl,rfl⟩) | (go_at_call 74;(first | with_reducible refine (HIS.out _ _ _ hi0).mono ?_);rintro e' wN ⟨rfl,hbN⟩;have HBW:=zh (Below.next HBW.out hbN);obtain ⟨e0,e1,e2,e3,e4⟩:=HEL.out _ HBW.out;clear hbN) | fail)
 go_ret
 exact ⟨rfl,Below.next HB1.out HBW.out⟩
theorem zgo {C:Dat→Bool} {x:Dat} {h:Dat} {t:List Dat} {v:Value} {w:World} (hin:CIn x h (t) v w) (hh:h.kind=2) (hkey:Sy.keyword h.s=true) (hi0:Sy.isNm h ⟨#[113,117,111,116,101]⟩=true) (hn:t.length≠1):COut false v w:=by
 obtain ⟨k,n,d,s,o,len,cap,W0,rfl,hW0,⟨i0,i1,i2,i3,i4⟩,il,hk2,HBL,HIT⟩:=zaN hin
 have HN:=zh hn
 have HKY:=zh hkey
 have HH:=zh hh
 unfold COut
 clear hin hh hkey hn
 go_enter func40,ntmps40
 go_wp2_with (first | (go_at_call 73;refine HIT.out.mono ?_;rintro e' w1 ⟨bb,ob,len1,cap1,kh,nh,dh,sh,oh,lh,ch,rfl,hkh,hsn,⟨e0,e1,e2,e3,e4⟩,hl0,hz,HL1,HR1,HEL,HB1,HBW,HIS⟩;have hkq:(kh != 2)=false:=(by rw[←hkh,HH.out];rfl);rw[hsn] at HKY;clear hkh hsn;have hn2:((len1:Int)==2)=false:=beq_eq_false_iff_ne.2 (by have:=HN.out;have:=HL1.out;rw[List.length_cons] at this;omega)) | (go_at_call 20;refine (zap sh true HKY.out _).mono ?_;rintro e' wN ⟨rfl,rfl⟩) | (go_at_call 74;(first | with_reducible refine (HIS.out _ _ _ hi0).mono ?_);rintro e' wN ⟨rfl,hbN⟩;have HBW:=zh (Below.next HBW.out hbN);obtain ⟨e0,e1,e2,e3,e4⟩:=HEL.out _ HBW.out;clear hbN) | fail)
 go_ret
 exact ⟨rfl,Below.next HB1.out HBW.out⟩
theorem zhr {C:Dat→Bool} {x:Dat} {h:Dat} {t:List Dat} {v:Value} {w:World} (hin:CIn x h (t) v w) (hh:h.kind=2) (hkey:Sy.keyword h.s=true) (hi0:Sy.isNm h ⟨#[113,117,111,116,101]⟩=false) (hi1:Sy.isNm h ⟨#[105,102]⟩=false) (hi2:Sy.isNm h ⟨#[98,101,103,105,110]⟩=false) (hi3:Sy.isNm h ⟨#[108,97,109,98,100,97]⟩=false) (hi4:Sy.isNm h ⟨#[115,101,116,33]⟩=false) (hi5:Sy.isNm h ⟨#[108,101,116,114,101,99]⟩=false) (hi6:Sy.isNm h ⟨#[108,101,116,114,101,99,42]⟩=false):COut false v w:=by
 obtain ⟨k,n,d,s,o,len,cap,W0,rfl,hW0,⟨i0,i1,i2,i3,i4⟩,il,hk2,HBL,HIT⟩:=zaN hin
 have HKY:=zh hkey
 have HH:=zh hh
 unfold COut
 clear hin hh hkey
 go_enter func40,ntmps40
 go_wp2_with (first | (go_at_call 73;refine HIT.out.mono ?_;rintro e' w1 ⟨bb,ob,len1,cap1,kh,nh,dh,sh,oh,lh,ch,rfl,hkh,hsn,⟨e0,e1,e2,e3,e4⟩,hl0,hz,HL1,HR1,HEL,HB1,HBW,HIS⟩;have hkq:(kh != 2)=false:=(by rw[←hkh,HH.out];rfl);rw[hsn] at HKY;clear hkh hsn) | (go_at_call 20;refine (zap sh true HKY.out _).mono ?_;rintro e' wN ⟨rfl,rfl⟩) | (go_at_call 74;(first | with_reducible refine (HIS.out _ _ _ hi0).mono ?_ | with_reducible refine (HIS.out _ _ _ hi1).mono ?_ | with_reducible refine (HIS.out _ _ _ hi2).mono ?_ | with_reducible refine (HIS.out _ _ _ hi3).mono ?_ | with_reducible refine (HIS.out _ _ _ hi4).mono ?_ | with_reducible refine (HIS.out _ _ _ hi5).mono ?_ | with_reducible refine (HIS.out _ _ _ hi6).mono ?_);rintro e' wN ⟨rfl,hbN⟩;have HBW:=zh (Below.next HBW.out hbN);obtain ⟨e0,e1,e2,e3,e4⟩:=HEL.out _ HBW.out;clear hbN) | fail)
 go_ret
 exact ⟨rfl,Below.next HB1.out HBW.out⟩
theorem zkl {C:Dat→Bool} {x:Dat} {h:Dat} {y z u:Dat} {v:Value} {w:World} (hin:CIn x h ([y,z,u]) v w) (hh:h.kind=2) (hkey:Sy.keyword h.s=true) (hi0:Sy.isNm h ⟨#[113,117,111,116,101]⟩=false) (hi1:Sy.isNm h ⟨#[105,102]⟩=true) (hC:∀c∈[y,z,u],CoreAt C c):COut ([y,z,u].all C) v w:=by
 obtain ⟨k,n,d,s,o,len,cap,W0,rfl,hW0,⟨i0,i1,i2,i3,i4⟩,il,hk2,HBL,HIT⟩:=zaN hin
 obtain ⟨r,hr⟩:∃r,[y,z,u].all C=r:=⟨_,rfl⟩
 have HC:=zh (zaP hC hr)
 rw[hr]
 have HKY:=zh hkey
 have HH:=zh hh
 unfold COut
 clear hin hh hkey hC hr
 go_enter func40,ntmps40
 go_wp2_with (first | (go_at_call 73;refine HIT.out.mono ?_;rintro e' w1 ⟨bb,ob,len1,cap1,kh,nh,dh,sh,oh,lh,ch,rfl,hkh,hsn,⟨e0,e1,e2,e3,e4⟩,hl0,hz,HL1,HR1,HEL,HB1,HBW,HIS⟩;have hkq:(kh != 2)=false:=(by rw[←hkh,HH.out];rfl);rw[hsn] at HKY;clear hkh hsn;have hn4:((len1:Int)==4)=true:=(by rw[HL1.out];rfl);obtain ⟨HR2,hcp,hc1,hc2⟩:=zbR HR1.out 1 (ob+5) (by simp) rfl) | (go_at_call 20;refine (zap sh true HKY.out _).mono ?_;rintro e' wN ⟨rfl,rfl⟩) | (go_at_call 74;(first | with_reducible refine (HIS.out _ _ _ hi0).mono ?_ | with_reducible refine (HIS.out _ _ _ hi1).mono ?_);rintro e' wN ⟨rfl,hbN⟩;have HBW:=zh (Below.next HBW.out hbN);obtain ⟨e0,e1,e2,e3,e4⟩:=HEL.out _ HBW.out;clear hbN) | (go_at_call 24;refine (HC.out _ _ ((HR2.out.kept HBW.out).wider HBW.out.size)).mono ?_;rintro e' w2 ⟨rfl,hb2⟩) | fail)
 go_ret
 exact ⟨rfl,Below.next (Below.next HB1.out HBW.out) hb2⟩
theorem zke {C:Dat→Bool} {x:Dat} {h:Dat} {t:List Dat} {v:Value} {w:World} (hin:CIn x h (t) v w) (hh:h.kind=2) (hkey:Sy.keyword h.s=true) (hi0:Sy.isNm h ⟨#[113,117,111,116,101]⟩=false) (hi1:Sy.isNm h ⟨#[105,102]⟩=true) (hn:t.length≠3):COut false v w:=by
 obtain ⟨k,n,d,s,o,len,cap,W0,rfl,hW0,⟨i0,i1,i2,i3,i4⟩,il,hk2,HBL,HIT⟩:=zaN hin
 have HN:=zh hn
 have HKY:=zh hkey
 have HH:=zh hh
 unfold COut
 clear hin hh hkey hn
 go_enter func40,ntmps40
 go_wp2_with (first | (go_at_call 73;refine HIT.out.mono ?_;rintro e' w1 ⟨bb,ob,len1,cap1,kh,nh,dh,sh,oh,lh,ch,rfl,hkh,hsn,⟨e0,e1,e2,e3,e4⟩,hl0,hz,HL1,HR1,HEL,HB1,HBW,HIS⟩;have hkq:(kh != 2)=false:=(by rw[←hkh,HH.out];rfl);rw[hsn] at HKY;clear hkh hsn;have hn4:((len1:Int)==4)=false:=beq_eq_false_iff_ne.2 (by have:=HN.out;have:=HL1.out;rw[List.length_cons] at this;omega)) | (go_at_call 20;refine (zap sh true HKY.out _).mono ?_;rintro e' wN ⟨rfl,rfl⟩) | (go_at_call 74;(first | with_reducible refine (HIS.out _ _ _ hi0).mono ?_ | with_reducible refine (HIS.out _ _ _ hi1).mono ?_);rintro e' wN ⟨rfl,hbN⟩;have HBW:=zh (Below.next HBW.out hbN);obtain ⟨e0,e1,e2,e3,e4⟩:=HEL.out _ HBW.out;clear hbN) | fail)
 all_goals (go_ret;exact ⟨rfl,Below.next HB1.out HBW.out⟩)
theorem zhf {C:Dat→Bool} {x:Dat} {h:Dat} {y:Dat} {t:List Dat} {v:Value} {w:World} (hin:CIn x h (y::t) v w) (hh:h.kind=2) (hkey:Sy.keyword h.s=true) (hi0:Sy.isNm h ⟨#[113,117,111,116,101]⟩=false) (hi1:Sy.isNm h ⟨#[105,102]⟩=false) (hi2:Sy.isNm h ⟨#[98,101,103,105,110]⟩=true) (hC:∀c∈y::t,CoreAt C c):COut ((y::t).all C) v w:=by
 obtain ⟨k,n,d,s,o,len,cap,W0,rfl,hW0,⟨i0,i1,i2,i3,i4⟩,il,hk2,HBL,HIT⟩:=zaN hin
 obtain ⟨r,hr⟩:∃r,(y::t).all C=r:=⟨_,rfl⟩
 have HC:=zh (zaP hC hr)
 rw[hr]
 have HKY:=zh hkey
 have HH:=zh hh
 unfold COut
 clear hin hh hkey hC hr
 go_enter func40,ntmps40
 go_wp2_with (first | (go_at_call 73;refine HIT.out.mono ?_;rintro e' w1 ⟨bb,ob,len1,cap1,kh,nh,dh,sh,oh,lh,ch,rfl,hkh,hsn,⟨e0,e1,e2,e3,e4⟩,hl0,hz,HL1,HR1,HEL,HB1,HBW,HIS⟩;have hkq:(kh != 2)=false:=(by rw[←hkh,HH.out];rfl);rw[hsn] at HKY;clear hkh hsn;have hn1:decide ((1:Int)<len1)=true:=decide_eq_true (by have:=HL1.out;simp only[List.length_cons] at this;omega);obtain ⟨HR2,hcp,hc1,hc2⟩:=zbR HR1.out 1 (ob+5) (by simp) rfl) | (go_at_call 20;refine (zap sh true HKY.out _).mono ?_;rintro e' wN ⟨rfl,rfl⟩) | (go_at_call 74;(first | with_reducible refine (HIS.out _ _ _ hi0).mono ?_ | with_reducible refine (HIS.out _ _ _ hi1).mono ?_ | with_reducible refine (HIS.out _ _ _ hi2).mono ?_);rintro e' wN ⟨rfl,hbN⟩;have HBW:=zh (Below.next HBW.out hbN);obtain ⟨e0,e1,e2,e3,e4⟩:=HEL.out _ HBW.out;clear hbN) | (go_at_call 24;refine (HC.out _ _ ((HR2.out.kept HBW.out).wider HBW.out.size)).mono ?_;rintro e' w2 ⟨rfl,hb2⟩) | fail)
 go_ret
 exact ⟨rfl,Below.next (Below.next HB1.out HBW.out) hb2⟩
theorem zf9 {C:Dat→Bool} {x:Dat} {h:Dat} {v:Value} {w:World} (hin:CIn x h ([]) v w) (hh:h.kind=2) (hkey:Sy.keyword h.s=true) (hi0:Sy.isNm h ⟨#[113,117,111,116,101]⟩=false) (hi1:Sy.isNm h ⟨#[105,102]⟩=false) (hi2:Sy.isNm h ⟨#[98,101,103,105,110]⟩=true):COut false v w:=by
 obtain ⟨k,n,d,s,o,len,cap,W0,rfl,hW0,⟨i0,i1,i2,i3,i4⟩,il,hk2,HBL,HIT⟩:=zaN hin
 have HKY:=zh hkey
 have HH:=zh hh
 unfold COut
 clear hin hh hkey
 go_enter func40,ntmps40
 go_wp2_with (first | (go_at_call 73;refine HIT.out.mono ?_;rintro e' w1 ⟨bb,ob,len1,cap1,kh,nh,dh,sh,oh,lh,ch,rfl,hkh,hsn,⟨e0,e1,e2,e3,e4⟩,hl0,hz,HL1,HR1,HEL,HB1,HBW,HIS⟩;have hkq:(kh != 2)=false:=(by rw[←hkh,HH.out];rfl);rw[hsn] at HKY;clear hkh hsn;have hn1:decide ((1:Int)<len1)=false:=decide_eq_false (by have:=HL1.out;simp only[List.length_cons,List.length_nil] at this;omega)) | (go_at_call 20;refine (zap sh true HKY.out _).mono ?_;rintro e' wN ⟨rfl,rfl⟩) | (go_at_call 74;(first | with_reducible refine (HIS.out _ _ _ hi0).mono ?_ | with_reducible refine (HIS.out _ _ _ hi1).mono ?_ | with_reducible refine (HIS.out _ _ _ hi2).mono ?_);rintro e' wN ⟨rfl,hbN⟩;have HBW:=zh (Below.next HBW.out hbN);obtain ⟨e0,e1,e2,e3,e4⟩:=HEL.out _ HBW.out;clear hbN) | fail)
 all_goals (go_ret;exact ⟨rfl,Below.next HB1.out HBW.out⟩)
theorem zfX {C:Dat→Bool} {x:Dat} {h:Dat} {f b:Dat} {v:Value} {w:World} (hin:CIn x h ([f,b]) v w) (hh:h.kind=2) (hkey:Sy.keyword h.s=true) (hi0:Sy.isNm h ⟨#[113,117,111,116,101]⟩=false) (hi1:Sy.isNm h ⟨#[105,102]⟩=false) (hi2:Sy.isNm h ⟨#[98,101,103,105,110]⟩=false) (hi3:Sy.isNm h ⟨#[108,97,109,98,100,97]⟩=true) (hC:∀c∈[b],CoreAt C c) (hf:Dat.shaped f=true) (hfa:Dat.all f≤100000) (hfo:Sy.formals f=true):COut ([b].all C) v w:=by
 obtain ⟨k,n,d,s,o,len,cap,W0,rfl,hW0,⟨i0,i1,i2,i3,i4⟩,il,hk2,HBL,HIT⟩:=zaN hin
 obtain ⟨r,hr⟩:∃r,[b].all C=r:=⟨_,rfl⟩
 have HC:=zh (zaP hC hr)
 rw[hr]
 have HFO:=zh (show ∀(W:World) (v:Value),RepD W W.heap.size f v→Calls prog 75 #[v] W fun e w'=>e=.returned (.bool true)∧Below W.heap.size W w' from fun W v hv=>by rw[←hfo];exact zci (fun _=>False) f v W.heap.size W (fun _ h=>h.elim) (hv.dug fun _ h=>h.elim) (Nat.le_refl _) hf hfa)
 have HKY:=zh hkey
 have HH:=zh hh
 unfold COut
 clear hin hh hkey hC hr hf hfa hfo
 go_enter func40,ntmps40
 go_wp2_with (first | (go_at_call 73;refine HIT.out.mono ?_;rintro e' w1 ⟨bb,ob,len1,cap1,kh,nh,dh,sh,oh,lh,ch,rfl,hkh,hsn,⟨e0,e1,e2,e3,e4⟩,hl0,hz,HL1,HR1,HEL,HB1,HBW,HIS⟩;have hkq:(kh != 2)=false:=(by rw[←hkh,HH.out];rfl);rw[hsn] at HKY;clear hkh hsn;have hn3:((len1:Int)==3)=true:=(by rw[HL1.out];rfl);obtain ⟨kf,nf,df,sf,of,lf,cf,HE2⟩:=zbb HR1.out (j:=1) rfl (ob+5) (ob+6) (ob+7) (ob+8) (ob+9) rfl rfl rfl rfl rfl;obtain ⟨HR2,hcp,hc1,hc2⟩:=zbR HR1.out 2 (ob+10) (by simp) rfl;have hm2:min (len1:Int) 2=2:=(by have:=HL1.out;simp only[List.length_cons] at this;omega)) | (go_at_call 20;refine (zap sh true HKY.out _).mono ?_;rintro e' wN ⟨rfl,rfl⟩) | (go_at_call 74;(first | with_reducible refine (HIS.out _ _ _ hi0).mono ?_ | with_reducible refine (HIS.out _ _ _ hi1).mono ?_ | with_reducible refine (HIS.out _ _ _ hi2).mono ?_ | with_reducible refine (HIS.out _ _ _ hi3).mono ?_);rintro e' wN ⟨rfl,hbN⟩;have HBW:=zh (Below.next HBW.out hbN);obtain ⟨e0,e1,e2,e3,e4⟩:=HEL.out _ HBW.out;clear hbN;obtain ⟨f0,f1,f2,f3,f4,fr⟩:=HE2.out _ HBW.out) | (go_at_call 75;refine (HFO.out _ _ fr).mono ?_;rintro e' wN ⟨rfl,hbN⟩;have HBW:=zh (Below.next HBW.out hbN);clear hbN fr) | (go_at_call 24;refine (HC.out _ _ ((HR2.out.kept HBW.out).wider HBW.out.size)).mono ?_;rintro e' w2 ⟨rfl,hb2⟩) | fail)
 go_ret
 exact ⟨rfl,Below.next (Below.next HB1.out HBW.out) hb2⟩
theorem zfs {C:Dat→Bool} {x:Dat} {h:Dat} {f b:Dat} {v:Value} {w:World} (hin:CIn x h ([f,b]) v w) (hh:h.kind=2) (hkey:Sy.keyword h.s=true) (hi0:Sy.isNm h ⟨#[113,117,111,116,101]⟩=false) (hi1:Sy.isNm h ⟨#[105,102]⟩=false) (hi2:Sy.isNm h ⟨#[98,101,103,105,110]⟩=false) (hi3:Sy.isNm h ⟨#[108,97,109,98,100,97]⟩=true) (hf:Dat.shaped f=true) (hfa:Dat.all f≤100000) (hfo:Sy.formals f=false):COut false v w:=by
 obtain ⟨k,n,d,s,o,len,cap,W0,rfl,hW0,⟨i0,i1,i2,i3,i4⟩,il,hk2,HBL,HIT⟩:=zaN hin
 have HFO:=zh (show ∀(W:World) (v:Value),RepD W W.heap.size f v→Calls prog 75 #[v] W fun e w'=>e=.returned (.bool false)∧Below W.heap.size W w' from fun W v hv=>by rw[←hfo];exact zci (fun _=>False) f v W.heap.size W (fun _ h=>h.elim) (hv.dug fun _ h=>h.elim) (Nat.le_refl _) hf hfa)
 have HKY:=zh hkey
 have HH:=zh hh
 unfold COut
 clear hin hh hkey hf hfa hfo
 go_enter func40,ntmps40
 go_wp2_with (first | (go_at_call 73;refine HIT.out.mono ?_;rintro e' w1 ⟨bb,ob,len1,cap1,kh,nh,dh,sh,oh,lh,ch,rfl,hkh,hsn,⟨e0,e1,e2,e3,e4⟩,hl0,hz,HL1,HR1,HEL,HB1,HBW,HIS⟩;have hkq:(kh != 2)=false:=(by rw[←hkh,HH.out];rfl);rw[hsn] at HKY;clear hkh hsn;have hn3:((len1:Int)==3)=true:=(by rw[HL1.out];rfl);obtain ⟨kf,nf,df,sf,of,lf,cf,HE2⟩:=zbb HR1.out (j:=1) rfl (ob+5) (ob+6) (ob+7) (ob+8) (ob+9) rfl rfl rfl rfl rfl;obtain ⟨HR2,hcp,hc1,hc2⟩:=zbR HR1.out 2 (ob+10) (by simp) rfl;have hm2:min (len1:Int) 2=2:=(by have:=HL1.out;simp only[List.length_cons] at this;omega)) | (go_at_call 20;refine (zap sh true HKY.out _).mono ?_;rintro e' wN ⟨rfl,rfl⟩) | (go_at_call 74;(first | with_reducible refine (HIS.out _ _ _ hi0).mono ?_ | with_reducible refine (HIS.out _ _ _ hi1).mono ?_ | with_reducible refine (HIS.out _ _ _ hi2).mono ?_ | with_reducible refine (HIS.out _ _ _ hi3).mono ?_);rintro e' wN ⟨rfl,hbN⟩;have HBW:=zh (Below.next HBW.out hbN);obtain ⟨e0,e1,e2,e3,e4⟩:=HEL.out _ HBW.out;clear hbN;obtain ⟨f0,f1,f2,f3,f4,fr⟩:=HE2.out _ HBW.out) | (go_at_call 75;refine (HFO.out _ _ fr).mono ?_;rintro e' wN ⟨rfl,hbN⟩;have HBW:=zh (Below.next HBW.out hbN);clear hbN fr) | fail)
 all_goals (go_ret;exact ⟨rfl,Below.next HB1.out HBW.out⟩)
theorem zku {C:Dat→Bool} {x:Dat} {h:Dat} {f b:Dat} {v:Value} {w:World} (hin:CIn x h ([f,b]) v w) (hh:h.kind=2) (hkey:Sy.keyword h.s=true) (hi0:Sy.isNm h ⟨#[113,117,111,116,101]⟩=false) (hi1:Sy.isNm h ⟨#[105,102]⟩=false) (hi2:Sy.isNm h ⟨#[98,101,103,105,110]⟩=false) (hi3:Sy.isNm h ⟨#[108,97,109,98,100,97]⟩=false) (hi4:Sy.isNm h ⟨#[115,101,116,33]⟩=true) (hC:∀c∈[b],CoreAt C c) (hfo:Sy.isVar f=true):COut ([b].all C) v w:=by
 obtain ⟨k,n,d,s,o,len,cap,W0,rfl,hW0,⟨i0,i1,i2,i3,i4⟩,il,hk2,HBL,HIT⟩:=zaN hin
 obtain ⟨r,hr⟩:∃r,[b].all C=r:=⟨_,rfl⟩
 have HC:=zh (zaP hC hr)
 rw[hr]
 have HFO:=zh (show ∀(W:World) (v:Value),RepD W W.heap.size f v→Calls prog 72 #[v] W fun e w'=>e=.returned (.bool true)∧Below W.heap.size W w' from fun W v hv=>by rw[←hfo];exact zaM f v hv)
 have HKY:=zh hkey
 have HH:=zh hh
 unfold COut
 clear hin hh hkey hC hr hfo
 go_enter func40,ntmps40
 go_wp2_with (first | (go_at_call 73;refine HIT.out.mono ?_;rintro e' w1 ⟨bb,ob,len1,cap1,kh,nh,dh,sh,oh,lh,ch,rfl,hkh,hsn,⟨e0,e1,e2,e3,e4⟩,hl0,hz,HL1,HR1,HEL,HB1,HBW,HIS⟩;have hkq:(kh != 2)=false:=(by rw[←hkh,HH.out];rfl);rw[hsn] at HKY;clear hkh hsn;have hn3:((len1:Int)==3)=true:=(by rw[HL1.out];rfl);obtain ⟨kf,nf,df,sf,of,lf,cf,HE2⟩:=zbb HR1.out (j:=1) rfl (ob+5) (ob+6) (ob+7) (ob+8) (ob+9) rfl rfl rfl rfl rfl;obtain ⟨HR2,hcp,hc1,hc2⟩:=zbR HR1.out 2 (ob+10) (by simp) rfl;have hm2:min (len1:Int) 2=2:=(by have:=HL1.out;simp only[List.length_cons] at this;omega)) | (go_at_call 20;refine (zap sh true HKY.out _).mono ?_;rintro e' wN ⟨rfl,rfl⟩) | (go_at_call 74;(first | with_reducible refine (HIS.out _ _ _ hi0).mono ?_ | with_reducible refine (HIS.out _ _ _ hi1).mono ?_ | with_reducible refine (HIS.out _ _ _ hi2).mono ?_ | with_reducible refine (HIS.out _ _ _ hi3).mono ?_ | with_reducible refine (HIS.out _ _ _ hi4).mono ?_);rintro e' wN ⟨rfl,hbN⟩;have HBW:=zh (Below.next HBW.out hbN);obtain ⟨e0,e1,e2,e3,e4⟩:=HEL.out _ HBW.out;clear hbN;obtain ⟨f0,f1,f2,f3,f4,fr⟩:=HE2.out _ HBW.out) | (go_at_call 72;refine (HFO.out _ _ fr).mono ?_;rintro e' wN ⟨rfl,hbN⟩;have HBW:=zh (Below.next HBW.out hbN);clear hbN fr) | (go_at_call 24;refine (HC.out _ _ ((HR2.out.kept HBW.out).wider HBW.out.size)).mono ?_;rintro e' w2 ⟨rfl,hb2⟩) | fail)
 go_ret
 exact ⟨rfl,Below.next (Below.next HB1.out HBW.out) hb2⟩
theorem ziH {C:Dat→Bool} {x:Dat} {h:Dat} {f b:Dat} {v:Value} {w:World} (hin:CIn x h ([f,b]) v w) (hh:h.kind=2) (hkey:Sy.keyword h.s=true) (hi0:Sy.isNm h ⟨#[113,117,111,116,101]⟩=false) (hi1:Sy.isNm h ⟨#[105,102]⟩=false) (hi2:Sy.isNm h ⟨#[98,101,103,105,110]⟩=false) (hi3:Sy.isNm h ⟨#[108,97,109,98,100,97]⟩=false) (hi4:Sy.isNm h ⟨#[115,101,116,33]⟩=true) (hfo:Sy.isVar f=false):COut false v w:=by
 obtain ⟨k,n,d,s,o,len,cap,W0,rfl,hW0,⟨i0,i1,i2,i3,i4⟩,il,hk2,HBL,HIT⟩:=zaN hin
 have HFO:=zh (show ∀(W:World) (v:Value),RepD W W.heap.size f v→Calls prog 72 #[v] W fun e w'=>e=.returned (.bool false)∧Below W.heap.size W w' from fun W v hv=>by rw[←hfo];exact zaM f v hv)
 have HKY:=zh hkey
 have HH:=zh hh
 unfold COut
 clear hin hh hkey hfo
 go_enter func40,ntmps40
 go_wp2_with (first | (go_at_call 73;refine HIT.out.mono ?_;rintro e' w1 ⟨bb,ob,len1,cap1,kh,nh,dh,sh,oh,lh,ch,rfl,hkh,hsn,⟨e0,e1,e2,e3,e4⟩,hl0,hz,HL1,HR1,HEL,HB1,HBW,HIS⟩;have hkq:(kh != 2)=false:=(by rw[←hkh,HH.out];rfl);rw[hsn] at HKY;clear hkh hsn;have hn3:((len1:Int)==3)=true:=(by rw[HL1.out];rfl);obtain ⟨kf,nf,df,sf,of,lf,cf,HE2⟩:=zbb HR1.out (j:=1) rfl (ob+5) (ob+6) (ob+7) (ob+8) (ob+9) rfl rfl rfl rfl rfl;obtain ⟨HR2,hcp,hc1,hc2⟩:=zbR HR1.out 2 (ob+10) (by simp) rfl;have hm2:min (len1:Int) 2=2:=(by have:=HL1.out;simp only[List.length_cons] at this;omega)) | (go_at_call 20;refine (zap sh true HKY.out _).mono ?_;rintro e' wN ⟨rfl,rfl⟩) | (go_at_call 74;(first | with_reducible refine (HIS.out _ _ _ hi0).mono ?_ | with_reducible refine (HIS.out _ _ _ hi1).mono ?_ | with_reducible refine (HIS.out _ _ _ hi2).mono ?_ | with_reducible refine (HIS.out _ _ _ hi3).mono ?_ | with_reducible refine (HIS.out _ _ _ hi4).mono ?_);rintro e' wN ⟨rfl,hbN⟩;have HBW:=zh (Below.next HBW.out hbN);obtain ⟨e0,e1,e2,e3,e4⟩:=HEL.out _ HBW.out;clear hbN;obtain ⟨f0,f1,f2,f3,f4,fr⟩:=HE2.out _ HBW.out) | (go_at_call 72;refine (HFO.out _ _ fr).mono ?_;rintro e' wN ⟨rfl,hbN⟩;have HBW:=zh (Below.next HBW.out hbN);clear hbN fr) | fail)
 all_goals (go_ret;exact ⟨rfl,Below.next HB1.out HBW.out⟩)
theorem zfi {C:Dat→Bool} {x:Dat} {h:Dat} {v:Value} {w:World} (hin:CIn x h ([]) v w) (hh:h.kind=2) (hkey:Sy.keyword h.s=true) (hi0:Sy.isNm h ⟨#[113,117,111,116,101]⟩=false) (hi1:Sy.isNm h ⟨#[105,102]⟩=false) (hi2:Sy.isNm h ⟨#[98,101,103,105,110]⟩=false) (hi3:Sy.isNm h ⟨#[108,97,109,98,100,97]⟩=true):COut false v w:=by
 obtain ⟨k,n,d,s,o,len,cap,W0,rfl,hW0,⟨i0,i1,i2,i3,i4⟩,il,hk2,HBL,HIT⟩:=zaN hin
 have HKY:=zh hkey
 have HH:=zh hh
 unfold COut
 clear hin hh hkey
 go_enter func40,ntmps40
 go_wp2_with (first | (go_at_call 73;refine HIT.out.mono ?_;rintro e' w1 ⟨bb,ob,len1,cap1,kh,nh,dh,sh,oh,lh,ch,rfl,hkh,hsn,⟨e0,e1,e2,e3,e4⟩,hl0,hz,HL1,HR1,HEL,HB1,HBW,HIS⟩;have hkq:(kh != 2)=false:=(by rw[←hkh,HH.out];rfl);rw[hsn] at HKY;clear hkh hsn;have hn3:((len1:Int)==3)=false:=(by rw[HL1.out];rfl);have hm2:min (len1:Int) 2=1:=(by rw[HL1.out];rfl)) | (go_at_call 20;refine (zap sh true HKY.out _).mono ?_;rintro e' wN ⟨rfl,rfl⟩) | (go_at_call 74;(first | with_reducible refine (HIS.out _ _ _ hi0).mono ?_ | with_reducible refine (HIS.out _ _ _ hi1).mono ?_ | with_reducible refine (HIS.out _ _ _ hi2).mono ?_ | with_reducible refine (HIS.out _ _ _ hi3).mono ?_);rintro e' wN ⟨rfl,hbN⟩;have HBW:=zh (Below.next HBW.out hbN);obtain ⟨e0,e1,e2,e3,e4⟩:=HEL.out _ HBW.out;clear hbN) | fail)
 all_goals (go_ret;exact ⟨rfl,Below.next HB1.out HBW.out⟩)
theorem zfG {C:Dat→Bool} {x:Dat} {h:Dat} {y:Dat} {t:List Dat} {v:Value} {w:World} (hin:CIn x h (y::t) v w) (hh:h.kind=2) (hkey:Sy.keyword h.s=true) (hi0:Sy.isNm h ⟨#[113,117,111,116,101]⟩=false) (hi1:Sy.isNm h ⟨#[105,102]⟩=false) (hi2:Sy.isNm h ⟨#[98,101,103,105,110]⟩=false) (hi3:Sy.isNm h ⟨#[108,97,109,98,100,97]⟩=true) (hn:(y::t).length≠2):COut false v w:=by
 obtain ⟨k,n,d,s,o,len,cap,W0,rfl,hW0,⟨i0,i1,i2,i3,i4⟩,il,hk2,HBL,HIT⟩:=zaN hin
 have HN:=zh hn
 have HKY:=zh hkey
 have HH:=zh hh
 unfold COut
 clear hin hh hkey hn
 go_enter func40,ntmps40
 go_wp2_with (first | (go_at_call 73;refine HIT.out.mono ?_;rintro e' w1 ⟨bb,ob,len1,cap1,kh,nh,dh,sh,oh,lh,ch,rfl,hkh,hsn,⟨e0,e1,e2,e3,e4⟩,hl0,hz,HL1,HR1,HEL,HB1,HBW,HIS⟩;have hkq:(kh != 2)=false:=(by rw[←hkh,HH.out];rfl);rw[hsn] at HKY;clear hkh hsn;have hn3:((len1:Int)==3)=false:=beq_eq_false_iff_ne.2 (by have:=HN.out;have:=HL1.out;simp only[List.length_cons] at *;omega);have hm2:min (len1:Int) 2=2:=(by have:=HL1.out;simp only[List.length_cons] at this;omega);have hcl:=(zbj HR1.out).2;have hl2:2≤len1:=(by have:=HL1.out;simp only[List.length_cons] at this;omega)) | (go_at_call 20;refine (zap sh true HKY.out _).mono ?_;rintro e' wN ⟨rfl,rfl⟩) | (go_at_call 74;(first | with_reducible refine (HIS.out _ _ _ hi0).mono ?_ | with_reducible refine (HIS.out _ _ _ hi1).mono ?_ | with_reducible refine (HIS.out _ _ _ hi2).mono ?_ | with_reducible refine (HIS.out _ _ _ hi3).mono ?_);rintro e' wN ⟨rfl,hbN⟩;have HBW:=zh (Below.next HBW.out hbN);obtain ⟨e0,e1,e2,e3,e4⟩:=HEL.out _ HBW.out;clear hbN) | fail)
 all_goals (go_ret;exact ⟨rfl,Below.next HB1.out HBW.out⟩)
theorem zi6 {C:Dat→Bool} {x:Dat} {h:Dat} {v:Value} {w:World} (hin:CIn x h ([]) v w) (hh:h.kind=2) (hkey:Sy.keyword h.s=true) (hi0:Sy.isNm h ⟨#[113,117,111,116,101]⟩=false) (hi1:Sy.isNm h ⟨#[105,102]⟩=false) (hi2:Sy.isNm h ⟨#[98,101,103,105,110]⟩=false) (hi3:Sy.isNm h ⟨#[108,97,109,98,100,97]⟩=false) (hi4:Sy.isNm h ⟨#[115,101,116,33]⟩=true):COut false v w:=by
 obtain ⟨k,n,d,s,o,len,cap,W0,rfl,hW0,⟨i0,i1,i2,i3,i4⟩,il,hk2,HBL,HIT⟩:=zaN hin
 have HKY:=zh hkey
 have HH:=zh hh
 unfold COut
 clear hin hh hkey
 go_enter func40,ntmps40
 go_wp2_with (first | (go_at_call 73;refine HIT.out.mono ?_;rintro e' w1 ⟨bb,ob,len1,cap1,kh,nh,dh,sh,oh,lh,ch,rfl,hkh,hsn,⟨e0,e1,e2,e3,e4⟩,hl0,hz,HL1,HR1,HEL,HB1,HBW,HIS⟩;have hkq:(kh != 2)=false:=(by rw[←hkh,HH.out];rfl);rw[hsn] at HKY;clear hkh hsn;have hn3:((len1:Int)==3)=false:=(by rw[HL1.out];rfl);have hm2:min (len1:Int) 2=1:=(by rw[HL1.out];rfl)) | (go_at_call 20;refine (zap sh true HKY.out _).mono ?_;rintro e' wN ⟨rfl,rfl⟩) | (go_at_call 74;(first | with_reducible refine (HIS.out _ _ _ hi0).mono ?_ | with_reducible refine (HIS.out _ _ _ hi1).mono ?_ | with_reducible refine (HIS.out _ _ _ hi2).mono ?_ | with_reducible refine (HIS.out _ _ _ hi3).mono ?_ | with_reducible refine (HIS.out _ _ _ hi4).mono ?_);rintro e' wN ⟨rfl,hbN⟩;have HBW:=zh (Below.next HBW.out hbN);obtain ⟨e0,e1,e2,e3,e4⟩:=HEL.out _ HBW.out;clear hbN) | fail)
 all_goals (go_ret;exact ⟨rfl,Below.next HB1.out HBW.out⟩)
theorem zi8 {C:Dat→Bool} {x:Dat} {h:Dat} {y:Dat} {t:List Dat} {v:Value} {w:World} (hin:CIn x h (y::t) v w) (hh:h.kind=2) (hkey:Sy.keyword h.s=true) (hi0:Sy.isNm h ⟨#[113,117,111,116,101]⟩=false) (hi1:Sy.isNm h ⟨#[105,102]⟩=false) (hi2:Sy.isNm h ⟨#[98,101,103,105,110]⟩=false) (hi3:Sy.isNm h ⟨#[108,97,109,98,100,97]⟩=false) (hi4:Sy.isNm h ⟨#[115,101,116,33]⟩=true) (hn:(y::t).length≠2):COut false v w:=by
 obtain ⟨k,n,d,s,o,len,cap,W0,rfl,hW0,⟨i0,i1,i2,i3,i4⟩,il,hk2,HBL,HIT⟩:=zaN hin
 have HN:=zh hn
 have HKY:=zh hkey
 have HH:=zh hh
 unfold COut
 clear hin hh hkey hn
 go_enter func40,ntmps40
 go_wp2_with (first | (go_at_call 73;refine HIT.out.mono ?_;rintro e' w1 ⟨bb,ob,len1,cap1,kh,nh,dh,sh,oh,lh,ch,rfl,hkh,hsn,⟨e0,e1,e2,e3,e4⟩,hl0,hz,HL1,HR1,HEL,HB1,HBW,HIS⟩;have hkq:(kh != 2)=false:=(by rw[←hkh,HH.out];rfl);rw[hsn] at HKY;clear hkh hsn;have hn3:((len1:Int)==3)=false:=beq_eq_false_iff_ne.2 (by have:=HN.out;have:=HL1.out;simp only[List.length_cons] at *;omega);have hm2:min (len1:Int) 2=2:=(by have:=HL1.out;simp only[List.length_cons] at this;omega);have hcl:=(zbj HR1.out).2;have hl2:2≤len1:=(by have:=HL1.out;simp only[List.length_cons] at this;omega)) | (go_at_call 20;refine (zap sh true HKY.out _).mono ?_;rintro e' wN ⟨rfl,rfl⟩) | (go_at_call 74;(first | with_reducible refine (HIS.out _ _ _ hi0).mono ?_ | with_reducible refine (HIS.out _ _ _ hi1).mono ?_ | with_reducible refine (HIS.out _ _ _ hi2).mono ?_ | with_reducible refine (HIS.out _ _ _ hi3).mono ?_ | with_reducible refine (HIS.out _ _ _ hi4).mono ?_);rintro e' wN ⟨rfl,hbN⟩;have HBW:=zh (Below.next HBW.out hbN);obtain ⟨e0,e1,e2,e3,e4⟩:=HEL.out _ HBW.out;clear hbN) | fail)
 all_goals (go_ret;exact ⟨rfl,Below.next HB1.out HBW.out⟩)
end
end Go.Proofs.YtnbjhmafnigefaaGreatDoor
