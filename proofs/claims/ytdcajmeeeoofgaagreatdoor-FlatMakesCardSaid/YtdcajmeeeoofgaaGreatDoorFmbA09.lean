/- .. -/
import Derived.Deep.LoopGhost
import Derived.Deep.QuietTactic
import Derived.BigQuiet
import Derived.Defers
import Derived.Test.YtdcajmeeeoofgaaGreatDoorFmbA08
open Go.Proofs.Tryz
set_option maxRecDepth 100000
set_option maxHeartbeats 16000000
namespace Go.Proofs.YtdcajmeeeoofgaaGreatDoor
section
namespace Mk
def Ext (s s':MSt):Prop:=∃seg,s'.code=s.code++seg
theorem Ext.refl (s:MSt):Ext s s:=⟨[],by simp⟩
theorem Ext.trans {s s' s'':MSt} (h:Ext s s') (h':Ext s' s''):Ext s s'':=by
 obtain ⟨a,ha⟩:=h
 obtain ⟨b,hb⟩:=h'
 exact ⟨a++b,by rw[hb,ha,List.append_assoc]⟩
theorem Ext.left {s s' t:MSt} (h:Ext s s') (e:t.code=s.code):Ext t s':=by
 obtain ⟨a,ha⟩:=h
 exact ⟨a,by rw[e,ha]⟩
theorem Ext.put {s s':MSt} (h:Ext s s') (x:Ins):Ext s (s'.put x):=h.trans ⟨[x],rfl⟩
theorem Ext.len {s s':MSt} (h:Ext s s'):s.code.length≤s'.code.length:=by
 obtain ⟨a,ha⟩:=h
 rw[ha];simp
theorem Ext.at {s s':MSt} (h:Ext s s') {k:Nat} {x:Ins} (hx:s.code[k]?=some x):s'.code[k]?=some x:=by
 obtain ⟨a,ha⟩:=h
 rw[ha,List.getElem?_append_left (List.getElem?_eq_some_iff.1 hx).1,hx]
theorem zbA (f:Ins→Ins):∀(a b:List Ins) (k:Nat),a.length≤k→(a++b).modify k f=a++b.modify (k-a.length) f
 | [],b,k,_=>by simp
 | x::a,b,0,h=>by simp at h
 | x::a,b,k+1,h=>by
  simp only[List.length_cons,Nat.add_le_add_iff_right] at h
  rw[List.cons_append,List.modify_succ_cons,zbA f a b k h,List.length_cons,Nat.add_sub_add_right,List.cons_append]
theorem Ext.setA {s s':MSt} (h:Ext s s') {k:Nat} (hk:s.code.length≤k) (a:Int):Ext s (s'.setA k a):=by
 obtain ⟨g,hg⟩:=h
 refine ⟨g.modify (k-s.code.length) (fun x=>{ x with a:=a }),?_⟩
 show s'.code.modify k _=_
 rw[hg,zbA _ _ _ _ hk]
theorem Ext.setB {s s':MSt} (h:Ext s s') {k:Nat} (hk:s.code.length≤k) (a:Int):Ext s (s'.setB k a):=by
 obtain ⟨g,hg⟩:=h
 refine ⟨g.modify (k-s.code.length) (fun x=>{ x with b:=a }),?_⟩
 show s'.code.modify k _=_
 rw[hg,zbA _ _ _ _ hk]
theorem Ext.ite {c:Prop} [Decidable c] {s a b:MSt} (ha:Ext s a) (hb:Ext s b):Ext s (if c then a else b):=by split<;>assumption
theorem Ext.strict (op n d:Int) (l:List Int) (s:MSt):Ext s (strict op n d l s):=by
 unfold Mk.strict
 repeat' (refine Ext.ite ?_ ?_)
 all_goals first | exact (Ext.refl s).put _ | exact ((Ext.refl s).put _).put _ | exact Ext.refl s
theorem Ext.ended (op n:Int) (l:List Int) (s:MSt):Ext s (ended op n l s):=by
 unfold Mk.ended
 repeat' (refine Ext.ite ?_ ?_)
 all_goals exact (Ext.refl s).put _
theorem Ext.fix1:∀(v:List Int) (t:List Trm) (s:MSt),Ext s (fix1 v t s)
 | [],t,s=>by
  rw[Mk.fix1]
  ·exact Ext.refl s
  ·simp
 | v::vs,[],s=>by
  rw[Mk.fix1]
  ·exact Ext.refl s
  ·simp
 | v::vs,x::l,s=>by
  rw[Mk.fix1]
  exact (Ext.put (s':=s.fresh.bind [v] [s.regs]) ⟨[],by simp[MSt.bind,MSt.fresh]⟩ _).trans (Ext.fix1 vs l _)
theorem Ext.thens {f g:Int→Bool→MSt→MSt} (hf:∀(d:Int) (e:Bool) (s:MSt),Ext s (f d e s)) (hg:∀(d:Int) (e:Bool) (s:MSt),Ext s (g d e s)) (c d:Int) (e:Bool) (s:MSt):Ext s (thens f g c d e s):=by
 have h2:Ext s (f d e (s.put ⟨16,0,c,0,[]⟩)):=((Ext.refl s).put _).trans (hf _ _ _)
 unfold Mk.thens
 dsimp only
 cases e with
 | true=>exact (Ext.setB h2 (Nat.le_refl _) _).trans (hg _ _ _)
 | false=>exact Ext.setA ((Ext.setB (h2.put _) (Nat.le_refl _) _).trans (hg _ _ _)) h2.len _
theorem Ext.had {lk:List (Int × Int)→Int→Int} (x:Trm) (hx:∀(d:Int) (e:Bool) (s:MSt),Ext s (into lk x d e s)) (s:MSt):Ext s (hadW lk x.op x.n (into lk x) s).2:=by
 unfold hadW
 split
 ·exact Ext.refl s
 ·exact (hx _ _ _).left rfl
mutual
theorem Ext.into {lk:List (Int × Int)→Int→Int}:∀(x:Trm) (d:Int) (e:Bool) (s:MSt),Ext s (into lk x d e s)
 | .mk op n v t,d,e,s=>by
  rw[Mk.into]
  split
  ·exact Ext.choice t d e s
  split
  ·exact Ext.seqs t d e s
  split
  ·exact Ext.lets t v [] d e s
  split
  ·exact (Ext.fix1 v t s).trans (Ext.fixs t v d e _)
  split
  ·split
   ·exact (Ext.allT t s).trans (Ext.ended _ _ _ _)
   ·split
    ·exact (Ext.refl s).put _
    ·exact (((Ext.allT t s.fresh).left rfl).trans (Ext.strict _ _ _ _ _)).put _
  ·split
   ·exact (Ext.refl s).put _
   ·exact (Ext.allT t s).trans (Ext.strict _ _ _ _ _)
theorem Ext.choice {lk:List (Int × Int)→Int→Int}:∀(l:List Trm) (d:Int) (e:Bool) (s:MSt),Ext s (choice lk l d e s)
 | [a,b,x],d,e,s=>by
  rw[Mk.choice]
  exact (Ext.had a (Ext.into a) s).trans (Ext.thens (fun d e s=>Ext.into b d e s) (fun d e s=>Ext.into x d e s) _ _ _ _)
 | [],_,_,s=>by rw[Mk.choice];exact Ext.refl s;all_goals simp
 | [_],_,_,s=>by rw[Mk.choice];exact Ext.refl s;all_goals simp
 | [_,_],_,_,s=>by rw[Mk.choice];exact Ext.refl s;all_goals simp
 | _::_::_::_::_,_,_,s=>by rw[Mk.choice];exact Ext.refl s;all_goals simp
theorem Ext.allT {lk:List (Int × Int)→Int→Int}:∀(l:List Trm) (s:MSt),Ext s (allT lk l s).2
 | [],s=>by rw[Mk.allT];exact Ext.refl s
 | x::l,s=>by
  rw[Mk.allT]
  exact (Ext.had x (Ext.into x) s).trans (Ext.allT l _)
theorem Ext.seqs {lk:List (Int × Int)→Int→Int}:∀(l:List Trm) (d:Int) (e:Bool) (s:MSt),Ext s (seqs lk l d e s)
 | [],_,_,s=>by rw[Mk.seqs];exact Ext.refl s
 | [x],d,e,s=>by
  rw[Mk.seqs]
  exact Ext.into x d e s
 | x::y::l,d,e,s=>by
  rw[Mk.seqs]
  exact (Ext.had x (Ext.into x) s).trans (Ext.seqs (y::l) d e _)
theorem Ext.lets {lk:List (Int × Int)→Int→Int}:∀(l:List Trm) (v rs:List Int) (d:Int) (e:Bool) (s:MSt),Ext s (lets lk l v rs d e s)
 | [],_,_,_,_,s=>by rw[Mk.lets];exact Ext.refl s
 | [x],v,rs,d,e,s=>by
  rw[Mk.lets]
  exact (Ext.into x d e _).left rfl
 | x::y::l,v,rs,d,e,s=>by
  rw[Mk.lets]
  exact (Ext.had x (Ext.into x) s).trans (Ext.lets (y::l) v _ d e _)
theorem Ext.fixs {lk:List (Int × Int)→Int→Int}:∀(l:List Trm) (v:List Int) (d:Int) (e:Bool) (s:MSt),Ext s (fixs lk l v d e s)
 | [],_,_,_,s=>by rw[Mk.fixs];exact Ext.refl s
 | [x],v,d,e,s=>by
  rw[Mk.fixs]
  exact Ext.into x d e s
 | .mk o m w t::y::l,v,d,e,s=>by
  rw[Mk.fixs]
  exact ((Ext.allT t s).put _).trans (Ext.fixs (y::l) v.tail d e _)
end
def fill (lk:List (Int × Int)→Int→Int):List Int→List Trm→MSt→MSt
 | v::vs,x::l,s=>fill lk vs l ((allT lk x.t s).2.put ⟨8,0,lk (allT lk x.t s).2.vars v,0,(allT lk x.t s).1⟩)
 | _,_,s=>s
theorem seqs_eq (lk:List (Int × Int)→Int→Int):∀(l:List Trm) (x:Trm) (d:Int) (e:Bool) (s:MSt),seqs lk (l++[x]) d e s=into lk x d e (allT lk l s).2
 | [],x,d,e,s=>by rw[List.nil_append,seqs,allT]
 | [y],x,d,e,s=>by
  show seqs lk (y::x::[]) d e s=_
  rw[seqs,seqs,allT,allT]
 | y::z::l,x,d,e,s=>by
  show seqs lk (y::z::(l++[x])) d e s=_
  rw[seqs,allT]
  exact seqs_eq lk (z::l) x d e _
theorem lets_eq (lk:List (Int × Int)→Int→Int):∀(l:List Trm) (x:Trm) (v rs:List Int) (d:Int) (e:Bool) (s:MSt),lets lk (l++[x]) v rs d e s=into lk x d e ((allT lk l s).2.bind v (rs++(allT lk l s).1))
 | [],x,v,rs,d,e,s=>by rw[List.nil_append,lets,allT,List.append_nil]
 | [y],x,v,rs,d,e,s=>by
  show lets lk (y::x::[]) v rs d e s=_
  rw[lets,lets,allT,allT]
 | y::z::l,x,v,rs,d,e,s=>by
  show lets lk (y::z::(l++[x])) v rs d e s=_
  rw[lets,allT]
  dsimp only
  rw[show rs++((hadW lk y.op y.n (into lk y) s).1::(allT lk (z::l) (hadW lk y.op y.n (into lk y) s).2).1)=rs++[(hadW lk y.op y.n (into lk y) s).1]++(allT lk (z::l) (hadW lk y.op y.n (into lk y) s).2).1 by simp]
  exact lets_eq lk (z::l) x v _ d e _
theorem fixs_eq (lk:List (Int × Int)→Int→Int):∀(l:List Trm) (x:Trm) (v:List Int) (d:Int) (e:Bool) (s:MSt),l.length=v.length→fixs lk (l++[x]) v d e s=into lk x d e (fill lk v l s)
 | [],x,[],d,e,s,_=>by
  rw[List.nil_append,fixs,fill]
  simp
 | y::l,x,[],d,e,s,h=>by simp at h
 | [],x,v::vs,d,e,s,h=>by simp at h
 | .mk o m u t::[],x,v::vs,d,e,s,h=>by
  show fixs lk (.mk o m u t::x::[]) (v::vs) d e s=_
  rw[fixs,fill,fixs,fill]
  ·rfl
  ·simp
 | .mk o m u t::z::l,x,v::vs,d,e,s,h=>by
  show fixs lk (.mk o m u t::z::(l++[x])) (v::vs) d e s=_
  rw[fixs,fill]
  exact fixs_eq lk (z::l) x vs d e _ (by simpa using h)
theorem fix1_snoc:∀(v:List Int) (t:List Trm) (j:Nat) (x:Int) (y:Trm) (s:MSt),v[j]?=some x→t[j]?=some y→fix1 (v.take (j+1)) t s=(((fix1 (v.take j) t s).fresh.bind [x] [(fix1 (v.take j) t s).regs]).put ⟨7,(fix1 (v.take j) t s).regs,y.n,0,[]⟩)
 | [],t,j,x,y,s,hx,hy=>by simp at hx
 | v::vs,[],j,x,y,s,hx,hy=>by simp at hy
 | v::vs,z::t,0,x,y,s,hx,hy=>by
  simp only[List.getElem?_cons_zero,Option.some.injEq] at hx hy
  subst hx hy
  have h0:∀(l:List Trm) (s:MSt),fix1 [] l s=s:=fun l s=>by rw[fix1];simp
  rw[List.take_succ_cons,List.take_zero,List.take_zero,fix1,h0,h0]
 | v::vs,z::t,j+1,x,y,s,hx,hy=>by
  rw[List.take_succ_cons,List.take_succ_cons,fix1,fix1]
  exact fix1_snoc vs t j x y _ (by simpa using hx) (by simpa using hy)
theorem fill_snoc (lk:List (Int × Int)→Int→Int):∀(v:List Int) (t:List Trm) (j:Nat) (x:Int) (y:Trm) (s:MSt),v[j]?=some x→t[j]?=some y→fill lk (v.take (j+1)) t s=((allT lk y.t (fill lk (v.take j) t s)).2.put ⟨8,0,lk (allT lk y.t (fill lk (v.take j) t s)).2.vars x,0,(allT lk y.t (fill lk (v.take j) t s)).1⟩)
 | [],t,j,x,y,s,hx,hy=>by simp at hx
 | v::vs,[],j,x,y,s,hx,hy=>by simp at hy
 | v::vs,z::t,0,x,y,s,hx,hy=>by
  simp only[List.getElem?_cons_zero,Option.some.injEq] at hx hy
  subst hx hy
  have h0:∀(l:List Trm) (s:MSt),fill lk [] l s=s:=fun l s=>by rw[fill];simp
  rw[List.take_succ_cons,List.take_zero,List.take_zero,fill,h0,h0]
 | v::vs,z::t,j+1,x,y,s,hx,hy=>by
  rw[List.take_succ_cons,List.take_succ_cons,fill,fill]
  exact fill_snoc lk vs t j x y _ (by simpa using hx) (by simpa using hy)
theorem fill_take (lk:List (Int × Int)→Int→Int):∀(v:List Int) (t:List Trm) (s:MSt),fill lk v (t.take v.length) s=fill lk v t s
 | [],t,s=>by rw[fill,fill]<;>simp
 | v::vs,[],s=>by simp
 | v::vs,z::t,s=>by
  rw[List.length_cons,List.take_succ_cons,fill,fill]
  exact fill_take lk vs t _
theorem Room.fill {lk:List (Int × Int)→Int→Int} (hl:LkOk lk):∀(v:List Int) (t:List Trm) {s:MSt} {k:Nat},Room s (k+(6*Trm.allL t-5*t.length))→Room (fill lk v t s) k
 | [],t,s,k,h=>by rw[Mk.fill];exact h.mono (by omega);simp
 | v::vs,[],s,k,h=>by rw[Mk.fill];exact h.mono (by omega);simp
 | v::vs,.mk o m w t::l,s,k,h=>by
  have hk:=Trm.allL_length l
  rw[Trm.allL,Trm.all] at h
  simp only[List.length_cons] at h
  rw[Mk.fill]
  refine Room.fill hl vs l (Room.put (Room.allT hl t s (k+(6*Trm.allL l-5*l.length)+1) (h.mono (by omega))).1 _)
end Mk
end
section
namespace Mk
open Unt (named gives)
inductive Frag:(Int→Prop)→Nat→List Ins→(Int→Prop)→Prop
 | nil (G:Int→Prop) (b:Nat):Frag G b [] G
 | one (G:Int→Prop) (b:Nat) (x:Ins):(0≤x.op∧x.op≠15∧x.op≠16∧x.op<19)→(∀r∈named x,G r)→¬(x.op=1∧x.a=x.d)→Frag G b [x] (fun r=>G r∨r=gives x)
 | cat {G E F:Int→Prop} {b:Nat} {s t:List Ins}:Frag G b s E→Frag E (b+s.length) t F→Frag G b (s++t) F
 | sub {G E F:Int→Prop} {b:Nat} {s:List Ins}:Frag G b s E→(∀r,F r→E r)→Frag G b s F
 | cond {G E:Int→Prop} {b:Nat} {s t:List Ins} (c:Int):G c→Frag G (b+1) s E→Frag G (b+1+s.length+1) t E→t≠[] →
   Frag G b (⟨16,0,c,(b+1+s.length+1:Nat),[]⟩::(s++⟨15,0,(b+1+s.length+1+t.length:Nat),0,[]⟩::t)) E
inductive FragE:(Int→Prop)→Nat→List Ins→Prop
 | one (G:Int→Prop) (b:Nat) (x:Ins):(19≤x.op∧x.op≤22)→(∀r∈named x,G r)→FragE G b [x]
 | cat {G E:Int→Prop} {b:Nat} {s t:List Ins}:Frag G b s E→FragE E (b+s.length) t→FragE G b (s++t)
 | cond {G:Int→Prop} {b:Nat} {s t:List Ins} (c:Int):G c→FragE G (b+1) s→FragE G (b+1+s.length) t→FragE G b (⟨16,0,c,(b+1+s.length:Nat),[]⟩::(s++t))
theorem zdK:∀(v r:List Int) (l:List (Int × Int)) (x:Int),x∉v→lkL (l++v.zip r) x=lkL l x
 | [],_,l,x,_=>by simp
 | _::_,[],l,x,_=>by simp
 | y::v,q::r,l,x,h=>by
  rw[List.zip_cons_cons,show l++(y,q)::v.zip r=(l++[(y,q)])++v.zip r by simp,zdK v r _ x (fun hx=>h (by simp[hx])),lkL_snoc,if_neg (fun e=>h (by simp[e]))]
theorem lkL_in:∀(v r:List Int) (l:List (Int × Int)) (x:Int),x∈v→r.length=v.length→lkL (l++v.zip r) x∈r
 | [],_,l,x,h,_=>by simp at h
 | _::_,[],l,x,h,hl=>by simp at hl
 | y::v,q::r,l,x,h,hl=>by
  rw[List.zip_cons_cons,show l++(y,q)::v.zip r=(l++[(y,q)])++v.zip r by simp]
  by_cases hx:x∈v
  ·exact List.mem_cons_of_mem _ (lkL_in v r _ x hx (by simpa using hl))
  ·obtain rfl:x=y:=by rcases List.mem_cons.1 h with e | e;exact e;exact absurd e hx
   rw[zdK v r _ _ hx,lkL_snoc,if_pos rfl]
   simp
def Env (G:Int→Prop) (d:Int) (e:Bool) (s:MSt) (sc:Int→Bool):Prop:=∀v,sc v=true→G (lkL s.vars v)∧(e=false→lkL s.vars v≠d)∧lkL s.vars v<s.regs
structure Lays (s s':MSt) (seg:List Ins) (B:List Int):Prop where
 code:s'.code=s.code++seg
 regs:s.regs≤s'.regs
 vars:∀x,x∉B→lkL s'.vars x=lkL s.vars x
theorem Lays.refl (s:MSt) (B:List Int):Lays s s [] B:=⟨by simp,Int.le_refl _,fun _ _=>rfl⟩
theorem Lays.trans {s s' s'':MSt} {a b:List Ins} {B C:List Int} (h:Lays s s' a B) (h':Lays s' s'' b C):Lays s s'' (a++b) (B++C):=
 ⟨by rw[h'.code,h.code,List.append_assoc],Int.le_trans h.regs h'.regs,fun x hx=>by
  simp only[List.mem_append,not_or] at hx
  rw[h'.vars x hx.2,h.vars x hx.1]⟩
theorem Lays.wider {s s':MSt} {a:List Ins} {B C:List Int} (h:Lays s s' a B) (hB:∀x∈B,x∈C):Lays s s' a C:=⟨h.code,h.regs,fun x hx=>h.vars x fun hb=>hx (hB x hb)⟩
theorem Lays.put (s:MSt) (x:Ins) (B:List Int):Lays s (s.put x) [x] B:=⟨rfl,Int.le_refl _,fun _ _=>rfl⟩
theorem Lays.fresh (s:MSt) (B:List Int):Lays s s.fresh [] B:=⟨by simp[MSt.fresh],by simp only[MSt.fresh];omega,fun _ _=>rfl⟩
theorem Lays.bind (s:MSt) (v r:List Int):Lays s (s.bind v r) [] v:=⟨by simp[MSt.bind],Int.le_refl _,fun x hx=>zdK v r _ x hx⟩
def Piece (e:Bool) (G:Int→Prop) (d:Int) (b:Nat) (s:List Ins):Prop:=match e with
 | true=>FragE G b s
 | false=>Frag G b s (fun r=>G r∨r=d)
theorem Piece.after {e:Bool} {G E:Int→Prop} {d:Int} {b b':Nat} {s t:List Ins} (h1:Frag G b s E) (hE:∀r,G r→E r) (hb:b'=b+s.length) (h2:Piece e E d b' t):Piece e G d b (s++t):=by
 subst hb
 cases e with
 | true=>exact .cat h1 h2
 | false=>exact .sub (.cat h1 h2) fun r hr=>hr.imp (hE r) id
theorem Env.step {G G':Int→Prop} {d:Int} {e:Bool} {s s':MSt} {sc:Int→Bool} {seg:List Ins} {B:List Int} (h:Env G d e s sc) (hG:∀r,G r→G' r) (hs:Lays s s' seg B) (hB:∀v,sc v=true→v∉B):Env G' d e s' sc:=fun v hv=>by
 rw[hs.vars v (hB v hv)]
 exact ⟨hG _ (h v hv).1,(h v hv).2.1,Int.lt_of_lt_of_le (h v hv).2.2 hs.regs⟩
theorem Env.fresh {G:Int→Prop} {d:Int} {e:Bool} {s:MSt} {sc:Int→Bool} (h:Env G d e s sc):Env G s.regs false s.fresh sc:=fun v hv=>by
 have h1:=h v hv
 refine ⟨h1.1,fun _ hh=>?_,?_⟩
 ·have h2:lkL s.vars v=s.regs:=hh
  omega
 ·have h2:lkL s.vars v<s.regs+1:=by omega
  exact h2
def plainB (op:Int):Bool:=[0,5,10,11,12,13,15,16,17,18,19,20,21,22].contains op
theorem zaT (G:Int→Prop) (s:MSt) (x:Ins) (hx:0≤x.op∧x.op≠15∧x.op≠16∧x.op<19) (hn:∀r∈named x,G r) (hm:¬(x.op=1∧x.a=x.d)) (d:Int) (hd:gives x=d):∃seg,Lays s (s.put x) seg []∧seg≠[]∧Frag G s.code.length seg (fun r=>G r∨r=d):=
 ⟨[x],.put s x [],by simp,hd ▸ .one G _ x hx hn hm⟩
theorem zfq (G:Int→Prop) (s:MSt) (x y:Ins) (hx:0≤x.op∧x.op≠15∧x.op≠16∧x.op<19) (hn:∀r∈named x,G r) (hm:¬(x.op=1∧x.a=x.d)) (hy:0≤y.op∧y.op≠15∧y.op≠16∧y.op<19) (hyn:named y=[]) (hym:¬(y.op=1∧y.a=y.d)) (d:Int) (hd:gives y=d) :
  ∃seg,Lays s ((s.put x).put y) seg []∧seg≠[]∧Frag G s.code.length seg (fun r=>G r∨r=d):=
 ⟨[x]++[y],(Lays.put s x []).trans (.put _ y []),by simp,.sub (.cat (.one G _ x hx hn hm) (.one _ _ y hy (by rw[hyn];simp) hym)) fun r hr=>by
  rcases hr with hr | hr
  ·exact .inl (.inl hr)
  ·exact .inr (hr.trans hd.symm)⟩
theorem zc3 (G:Int→Prop) (op n d:Int) (l:List Int) (s:MSt) (nt:Nat) (hp:plainB op=true) (hc:Trm.countsB op 0 nt=true) (hl:l.length=nt) (hG:∀r∈l,G r):∃seg,Lays s (strict op n d l s) seg []∧seg≠[]∧Frag G s.code.length seg (fun r=>G r∨r=d):=by
 subst hl
 simp only[plainB,List.contains_eq_mem,decide_eq_true_eq,List.mem_cons,List.not_mem_nil,or_false] at hp
 rcases hp with rfl | rfl | rfl | rfl | rfl | rfl | rfl | rfl | rfl | rfl | rfl | rfl | rfl | rfl<;>simp[Trm.countsB] at hc
 ·exact zaT G s _ (by simp) (by simp[named]) (by simp) d rfl
 ·match l,hc with
  | a::l,_=>exact zaT G s _ (by simp) (by simpa[named] using hG) (by simp) d rfl
 ·exact zaT G s _ (by simp) (by simpa[named] using hG) (by simp) d rfl
 ·exact zaT G s _ (by simp) (by simp[named]) (by simp) d rfl
 ·match l,hc with
  | [a],_=>exact zaT G s _ (by simp) (by simpa[named] using hG) (by simp) d rfl
 ·exact zaT G s _ (by simp) (by simp[named]) (by simp) d rfl
 ·match l,hc with
  | [a],_=>exact zaT G s _ (by simp) (by simpa[named] using hG) (by simp) d rfl
 ·match l,hc with
  | [a],_=>exact zaT G s _ (by simp) (by simpa[named] using hG) (by simp) d rfl
 ·match l,hc with
  | [a,b],_=>exact zfq G s _ _ (by simp) (by simpa[named] using hG) (by simp) (by simp) (by simp[named]) (by simp) d rfl
 ·match l,hc with
  | [a,b],_=>exact zfq G s _ _ (by simp) (by simpa[named] using hG) (by simp) (by simp) (by simp[named]) (by simp) d rfl
 ·exact zaT G s _ (by simp) (by simpa[named] using hG) (by simp) d rfl
 ·exact zaT G s _ (by simp) (by simp[named]) (by simp) d rfl
 ·exact zaT G s _ (by simp) (by simp[named]) (by simp) d rfl
 ·match l,hc with
  | a::l,_=>exact zaT G s _ (by simp) (by simpa[named] using hG) (by simp) d rfl
theorem zeY {op n:Int} {nt:Nat} (he:endsB op n=true) (hc:Trm.countsB op 0 nt=true):op=10∨1≤nt:=by
 simp only[endsB,Bool.or_eq_true,Bool.and_eq_true,decide_eq_true_eq] at he
 rcases he with rfl | rfl | h
 ·right;simpa[Trm.countsB] using hc
 ·right;simpa[Trm.countsB] using hc
 ·exact .inl h.1
theorem zgq (G:Int→Prop) (op n:Int) (l:List Int) (s:MSt) (he:endsB op n=true) (hl:op=10∨1≤l.length) (hG:∀r∈l,G r):∃seg,Lays s (ended op n l s) seg []∧seg≠[]∧FragE G s.code.length seg:=by
 have one:∀x:Ins,(19≤x.op∧x.op≤22)→(∀r∈named x,G r)→∃seg,Lays s (s.put x) seg []∧seg≠[]∧FragE G s.code.length seg:=fun x h1 h2=>⟨[x],.put s x [],by simp,.one G _ x h1 h2⟩
 simp only[endsB,Bool.or_eq_true,Bool.and_eq_true,decide_eq_true_eq] at he
 rcases he with rfl | rfl | ⟨rfl,_⟩
 ·match l,hl with
  | a::l,_=>exact one _ (by simp) (by simpa[named] using hG)
  | [],h=>simp at h
 ·match l,hl with
  | a::l,_=>exact one _ (by simp) (by simpa[named] using hG)
  | [],h=>simp at h
 ·exact one _ (by simp) (by simpa[named] using hG)
theorem zaW {nc nk:Int} {fr:Bool} {op:Int} (ho:op≠9):∀{l:List Trm} {sc:Int→Bool},Trm.wfL nc nk fr op [] l sc=true→∀x∈l,Trm.wf nc nk fr x sc=true
 | [],_,_,x,hx=>by simp at hx
 | [y],sc,h,x,hx=>by
  rw[Trm.wfL,Trm.addV_nil] at h
  rw[List.mem_singleton.1 hx];exact h
 | y::z::l,sc,h,x,hx=>by
  rw[Trm.wfL,if_neg ho,Bool.and_eq_true] at h
  rcases List.mem_cons.1 hx with rfl | hx
  ·exact h.1
  ·exact zaW ho h.2 x hx
theorem zaE {nc nk:Int} {fr:Bool} {op n:Int} {v:List Int} {t:List Trm} {sc:Int→Bool} (h:Trm.wf nc nk fr (.mk op n v t) sc=true):Trm.sortB op=true∧Trm.countsB op v.length t.length=true∧Trm.numberB nc nk fr sc op n=true∧Trm.wfL nc nk fr op v t sc=true:=by
 rw[Trm.wf] at h
 simpa[Bool.and_eq_true] using h
theorem zaw {op:Int} {nv nt:Nat} (h8:op≠8) (h9:op≠9) (h:Trm.countsB op nv nt=true):nv=0:=by
 rw[Trm.countsB,if_neg (by omega)] at h
 simp only[Bool.and_eq_true,decide_eq_true_eq] at h
 exact h.1
theorem zdU {op:Int} (hs:Trm.sortB op=true) (h1:op≠1) (h3:op≠3) (h6:op≠6) (h8:op≠8) (h9:op≠9):plainB op=true:=by
 simp only[Trm.sortB,plainB,List.contains_eq_mem,decide_eq_true_eq,List.mem_cons,List.not_mem_nil,or_false] at hs ⊢
 omega
def LaysInto (x:Trm):Prop:=∀(nc nk:Int) (fr:Bool) (sc:Int→Bool) (d:Int) (e:Bool) (s:MSt) (G:Int→Prop),Trm.wf nc nk fr x sc=true→Env G d e s sc→(∀v,sc v=true→v∉x.bnd)→x.bnd.Nodup→(e=false→d<s.regs) →
 ∃seg,Lays s (into lkL x d e s) seg x.bnd∧seg≠[]∧Piece e G d s.code.length seg
theorem zcw {x:Trm} (hx:LaysInto x) {nc nk:Int} {fr:Bool} {sc:Int→Bool} {d:Int} {e:Bool} {s:MSt} {G:Int→Prop} (hw:Trm.wf nc nk fr x sc=true) (hE:Env G d e s sc) (hB:∀v,sc v=true→v∉x.bnd) (hN:x.bnd.Nodup) (hd:e=false→d<s.regs) :
  ∃seg,Lays s (hadW lkL x.op x.n (into lkL x) s).2 seg x.bnd∧Frag G s.code.length seg (fun r=>G r∨r=(hadW lkL x.op x.n (into lkL x) s).1)∧(e=false→(hadW lkL x.op x.n (into lkL x) s).1≠d)∧(hadW lkL x.op x.n (into lkL x) s).1<(hadW lkL x.op x.n (into lkL x) s).2.regs:=by
 obtain ⟨op,n,v,t⟩:=x
 by_cases h1:op=1
 ·subst h1
  have hn:=(zaE hw).2.2.1
  have hs:sc n=true:=by simpa[Trm.numberB] using hn
  have he:=hE n hs
  simp only[hadW,Trm.op,Trm.n,↓reduceIte]
  exact ⟨[],.refl s _,.sub (.nil G _) fun r hr=>by
   rcases hr with hr | rfl
   ·exact hr
   ·exact he.1,he.2⟩
 ·have hh:hadW lkL (Trm.mk op n v t).op (Trm.mk op n v t).n (into lkL (Trm.mk op n v t)) s=(s.regs,into lkL (Trm.mk op n v t) s.regs false s.fresh):=if_neg h1
  rw[hh]
  obtain ⟨seg,l1,l2,l3⟩:=hx nc nk fr sc s.regs false s.fresh G hw hE.fresh hB hN (fun _=>by simp only[MSt.fresh];omega)
  refine ⟨seg,by simpa using (Lays.fresh s []).trans l1,l3,fun he=>?_,?_⟩
  ·have:=hd he
   show s.regs≠d
   omega
  ·have h2:s.fresh.regs≤_:=l1.regs
   have h3:s.regs<s.fresh.regs:=by simp only[MSt.fresh];omega
   exact Int.lt_of_lt_of_le h3 h2
theorem Env.or {G:Int→Prop} {d:Int} {e:Bool} {s s':MSt} {sc:Int→Bool} {seg:List Ins} {B:List Int} (F:Int→Prop) (h:Env G d e s sc) (hs:Lays s s' seg B) (hB:∀v,sc v=true→v∉B):Env (fun r=>G r∨F r) d e s' sc:=h.step (fun _ h=>.inl h) hs hB
theorem zb4:∀(l:List Trm),(∀x∈l,LaysInto x)→∀(nc nk:Int) (fr:Bool) (sc:Int→Bool) (d:Int) (e:Bool) (s:MSt) (G:Int→Prop),(∀x∈l,Trm.wf nc nk fr x sc=true)→Env G d e s sc→(∀v,sc v=true→v∉Trm.bndL l)→(Trm.bndL l).Nodup→(e=false→d<s.regs) →
  ∃seg,Lays s (allT lkL l s).2 seg (Trm.bndL l)∧Frag G s.code.length seg (fun r=>G r∨r∈(allT lkL l s).1)∧(allT lkL l s).1.length=l.length∧∀r∈(allT lkL l s).1,(e=false→r≠d)∧r<(allT lkL l s).2.regs
 | [],_,_,_,_,_,d,e,s,G,_,_,_,_,_=>⟨[],by rw[allT];exact .refl s _,by rw[allT];exact .sub (.nil G _) (by simp),by rw[allT];rfl,by rw[allT];simp⟩
 | x::l,ih,nc,nk,fr,sc,d,e,s,G,hw,hE,hB,hN,hd=>by
  rw[Trm.bndL] at hN hB
  have hNx:=(List.nodup_append.1 hN).1
  have hNl:=(List.nodup_append.1 hN).2.1
  obtain ⟨s1,a1,a2,a3,a4⟩:=zcw (ih x (by simp)) (hw x (by simp)) hE (fun v hv hx=>hB v hv (List.mem_append_left _ hx)) hNx hd
  obtain ⟨r,hr⟩:∃r,hadW lkL x.op x.n (into lkL x) s=r:=⟨_,rfl⟩
  rw[hr] at a1 a2 a3 a4
  have hE1:=hE.or (fun q=>q=r.1) a1 (fun v hv hx=>hB v hv (List.mem_append_left _ hx))
  obtain ⟨s2,b1,b2,b3,b4⟩:=zb4 l (fun y hy=>ih y (by simp[hy])) nc nk fr sc d e r.2 _ (fun y hy=>hw y (by simp[hy])) hE1 (fun v hv hx=>hB v hv (List.mem_append_right _ hx)) hNl (fun he=>Int.lt_of_lt_of_le (hd he) a1.regs)
  have ha:allT lkL (x::l) s=(r.1::(allT lkL l r.2).1,(allT lkL l r.2).2):=by rw[allT,hr]
  rw[ha,Trm.bndL]
  refine ⟨s1++s2,a1.trans b1,.sub (.cat a2 (by rw[a1.code,List.length_append] at b2;exact b2)) fun q hq=>?_,by simp[b3],fun q hq=>?_⟩
  ·rcases hq with hq | hq
   ·exact .inl (.inl hq)
   ·rcases List.mem_cons.1 hq with rfl | hq
    ·exact .inl (.inr rfl)
    ·exact .inr hq
  ·rcases List.mem_cons.1 hq with rfl | hq
   ·exact ⟨a3,Int.lt_of_lt_of_le a4 b1.regs⟩
   ·exact b4 q hq
theorem zeh:∀(l:List Trm),(∀x∈l,LaysInto x)→l≠[]→∀(nc nk:Int) (fr:Bool) (sc:Int→Bool) (d:Int) (e:Bool) (s:MSt) (G:Int→Prop),(∀x∈l,Trm.wf nc nk fr x sc=true)→Env G d e s sc→(∀v,sc v=true→v∉Trm.bndL l)→(Trm.bndL l).Nodup→(e=false→d<s.regs) →
  ∃seg,Lays s (seqs lkL l d e s) seg (Trm.bndL l)∧seg≠[]∧Piece e G d s.code.length seg
 | [],_,hne,_,_,_,_,_,_,_,_,_,_,_,_,_=>absurd rfl hne
 | [x],ih,_,nc,nk,fr,sc,d,e,s,G,hw,hE,hB,hN,hd=>by
  simp only[Trm.bndL,List.append_nil] at hB hN ⊢
  rw[seqs]
  exact ih x (by simp) nc nk fr sc d e s G (hw x (by simp)) hE hB hN hd
 | x::y::l,ih,_,nc,nk,fr,sc,d,e,s,G,hw,hE,hB,hN,hd=>by
  rw[Trm.bndL] at hN hB
  have hNx:=(List.nodup_append.1 hN).1
  have hNl:=(List.nodup_append.1 hN).2.1
  obtain ⟨s1,a1,a2,a3,a4⟩:=zcw (ih x (by simp)) (hw x (by simp)) hE (fun v hv hx=>hB v hv (List.mem_append_left _ hx)) hNx hd
  rw[seqs]
  obtain ⟨r,hr⟩:∃r,hadW lkL x.op x.n (into lkL x) s=r:=⟨_,rfl⟩
  rw[hr] at a1 a2 a3 a4 ⊢
  have hE1:=hE.or (fun q=>q=r.1) a1 (fun v hv hx=>hB v hv (List.mem_append_left _ hx))
  obtain ⟨s2,b1,b2,b3⟩:=zeh (y::l) (fun z hz=>ih z (by simp[hz])) (by simp) nc nk fr sc d e r.2 _ (fun z hz=>hw z (by simp[hz])) hE1 (fun v hv hx=>hB v hv (List.mem_append_right _ hx)) hNl (fun he=>Int.lt_of_lt_of_le (hd he) a1.regs)
  rw[Trm.bndL]
  refine ⟨s1++s2,a1.trans b1,by simp[b2],Piece.after a2 (fun _ h=>.inl h) (by rw[a1.code,List.length_append]) b3⟩
theorem zci {α:Type} (f:α→α) (x:α) (r:List α):∀l:List α,(l++x::r).modify l.length f=l++f x::r
 | []=>by simp
 | y::l=>by simpa using zci f x r l
theorem zeq:∀(l:List Trm),(∀x∈l,LaysInto x)→l≠[]→∀(v rs:List Int) (nc nk:Int) (fr:Bool) (sc:Int→Bool) (d:Int) (e:Bool) (s:MSt) (G:Int→Prop),Trm.wfL nc nk fr 8 v l sc=true→(l.length-1)+rs.length=v.length→(∀r∈rs,G r∧(e=false→r≠d)∧r<s.regs)→Env G d e s sc→(∀w,sc w=true→w∉v∧w∉Trm.bndL l)→(v++Trm.bndL l).Nodup→(e=false→d<s.regs) →
  ∃seg,Lays s (lets lkL l v rs d e s) seg (v++Trm.bndL l)∧seg≠[]∧Piece e G d s.code.length seg
 | [],_,hne,_,_,_,_,_,_,_,_,_,_,_,_,_,_,_,_,_=>absurd rfl hne
 | [x],ih,_,v,rs,nc,nk,fr,sc,d,e,s,G,hw,hl,hr,hE,hB,hN,hd=>by
  rw[Trm.wfL] at hw
  simp only[Trm.bndL,List.append_nil] at hB hN ⊢
  rw[lets]
  have hlen:rs.length=v.length:=by simpa using hl
  have hE1:Env G d e (s.bind v rs) (Trm.addV sc v):=fun w hw=>by
   by_cases hv:w∈v
   ·have:=hr _ (lkL_in v rs s.vars w hv hlen)
    exact this
   ·have hs:sc w=true:=by simpa[Trm.addV,hv] using hw
    rw[show lkL (s.bind v rs).vars w=lkL s.vars w from zdK v rs _ w hv]
    exact hE w hs
  obtain ⟨seg,a1,a2,a3⟩:=ih x (by simp) nc nk fr _ d e (s.bind v rs) G hw hE1 (fun w hw hx=>by
   by_cases hv:w∈v
   ·exact (List.nodup_append.1 hN).2.2 w hv w hx rfl
   ·have hs:sc w=true:=by simpa[Trm.addV,hv] using hw
    exact (hB w hs).2 hx) (List.nodup_append.1 hN).2.1 hd
  exact ⟨seg,by simpa using (Lays.bind s v rs).trans a1,a2,a3⟩
 | x::y::l,ih,_,v,rs,nc,nk,fr,sc,d,e,s,G,hw,hl,hr,hE,hB,hN,hd=>by
  rw[Trm.wfL,if_neg (by decide),Bool.and_eq_true] at hw
  rw[Trm.bndL] at hN hB
  have hN1:=List.nodup_append.1 hN
  have hN2:=List.nodup_append.1 hN1.2.1
  obtain ⟨s1,a1,a2,a3,a4⟩:=zcw (ih x (by simp)) hw.1 hE (fun w hv hx=>(hB w hv).2 (List.mem_append_left _ hx)) hN2.1 hd
  rw[lets]
  obtain ⟨r,hre⟩:∃r,hadW lkL x.op x.n (into lkL x) s=r:=⟨_,rfl⟩
  rw[hre] at a1 a2 a3 a4 ⊢
  have hE1:=hE.or (fun q=>q=r.1) a1 (fun w hv hx=>(hB w hv).2 (List.mem_append_left _ hx))
  obtain ⟨s2,b1,b2,b3⟩:=zeq (y::l) (fun z hz=>ih z (by simp[hz])) (by simp) v (rs++[r.1]) nc nk fr sc d e r.2 _ hw.2 (by simp at hl ⊢;omega) (fun q hq=>by
   rcases List.mem_append.1 hq with hq | hq
   ·exact ⟨.inl (hr q hq).1,(hr q hq).2.1,Int.lt_of_lt_of_le (hr q hq).2.2 a1.regs⟩
   ·rw[List.mem_singleton.1 hq];exact ⟨.inr rfl,a3,a4⟩) hE1 (fun w hv=>⟨(hB w hv).1,fun hx=>(hB w hv).2 (List.mem_append_right _ hx)⟩) (List.nodup_append.2 ⟨hN1.1,hN2.2.1,fun a ha b hb=>hN1.2.2 a ha b (List.mem_append_right _ hb)⟩) (fun he=>Int.lt_of_lt_of_le (hd he) a1.regs)
  refine ⟨s1++s2,(a1.trans b1).wider ?_,by simp[b2],Piece.after a2 (fun _ h=>.inl h) (by rw[a1.code,List.length_append]) b3⟩
  rw[show Trm.bndL (x::y::l)=x.bnd++Trm.bndL (y::l) from by rw[Trm.bndL]]
  intro w hw
  simp only[List.mem_append] at hw ⊢
  rcases hw with h | h | h
  ·exact .inr (.inl h)
  ·exact .inl h
  ·exact .inr (.inr h)
theorem zeu:∀(v:List Int) (t:List Trm),t.length=v.length+1→∀(sc:Int→Bool) (d:Int) (e:Bool) (s:MSt) (G:Int→Prop),Env G d e s sc→(∀w,sc w=true→w∉v)→v.Nodup→(e=false→d<s.regs) →
  ∃seg F,Lays s (fix1 v t s) seg v∧Frag G s.code.length seg F∧(∀r,G r→F r)∧Env F d e (fix1 v t s) (Trm.addV sc v)
 | [],t,_,sc,d,e,s,G,hE,_,_,_=>by
  rw[fix1]
  ·exact ⟨[],G,.refl s _,.nil G _,fun _ h=>h,by rw[Trm.addV_nil];exact hE⟩
  ·simp
 | v::vs,[],ht,_,_,_,_,_,_,_,_,_=>by simp at ht
 | v::vs,x::l,ht,sc,d,e,s,G,hE,hB,hN,hd=>by
  rw[fix1]
  obtain ⟨s1,hs1⟩:∃s1,(s.fresh.bind [v] [s.regs]).put ⟨7,s.regs,x.n,0,[]⟩=s1:=⟨_,rfl⟩
  have l1:Lays s s1 [⟨7,s.regs,x.n,0,[]⟩] [v]:=by
   rw[←hs1]
   simpa using ((Lays.fresh s []).trans (Lays.bind s.fresh [v] [s.regs])).trans (Lays.put _ ⟨7,s.regs,x.n,0,[]⟩ [])
  have hvs:∀w,lkL s1.vars w=if w=v then s.regs else lkL s.vars w:=fun w=>by rw[←hs1];exact lkL_snoc s.vars v s.regs w
  have hre:s1.regs=s.regs+1:=by rw[←hs1];rfl
  have hf:Frag G s.code.length [⟨7,s.regs,x.n,0,[]⟩] (fun r=>G r∨r=s.regs):=.one G _ ⟨7,s.regs,x.n,0,[]⟩ (by simp) (by simp[named]) (by simp)
  have hE1:Env (fun r=>G r∨r=s.regs) d e s1 (Trm.addV sc [v]):=fun w hw=>by
   rw[hvs w]
   by_cases hv:w=v
   ·rw[if_pos hv,hre]
    exact ⟨.inr rfl,fun he hh=>by have:=hd he;omega,by omega⟩
   ·rw[if_neg hv,hre]
    have h:=hE w (by simpa[Trm.addV,hv] using hw)
    exact ⟨.inl h.1,h.2.1,by have:=h.2.2;omega⟩
  rw[hs1]
  obtain ⟨s2,F,b1,b2,b3,b4⟩:=zeu vs l (by simpa using ht) (Trm.addV sc [v]) d e s1 _ hE1 (fun w hw hx=>by
   by_cases hv:w=v
   ·exact (List.nodup_cons.1 hN).1 (hv ▸ hx)
   ·exact hB w (by simpa[Trm.addV,hv] using hw) (by simp[hx])) (List.nodup_cons.1 hN).2 (fun he=>by have:=hd he;omega)
  refine ⟨_++s2,F,by simpa using l1.trans b1,.cat hf (by rw[l1.code,List.length_append] at b2;exact b2),fun r h=>b3 r (.inl h),?_⟩
  rw[←Trm.addV_append] at b4
  exact b4
theorem zel:∀(l:List Trm),(∀x∈l,LaysInto x∧∀y∈x.t,LaysInto y)→∀(v w:List Int) (nc nk:Int) (fr:Bool) (sc0:Int→Bool) (d:Int) (e:Bool) (s:MSt) (G:Int→Prop),l.length=v.length+1→Trm.wfL nc nk fr 9 w l sc0=true→(∀x∈v,Trm.addV sc0 w x=true)→Env G d e s (Trm.addV sc0 w)→(∀x,Trm.addV sc0 w x=true→x∉Trm.bndL l)→(Trm.bndL l).Nodup→(e=false→d<s.regs) →
  ∃seg,Lays s (fixs lkL l v d e s) seg (Trm.bndL l)∧seg≠[]∧Piece e G d s.code.length seg
 | [],_,_,_,_,_,_,_,_,_,_,_,h,_,_,_,_,_,_=>by simp at h
 | [x],ih,v,w,nc,nk,fr,sc0,d,e,s,G,_,hw,_,hE,hB,hN,hd=>by
  rw[Trm.wfL] at hw
  simp only[Trm.bndL,List.append_nil] at hB hN ⊢
  rw[fixs]
  exact (ih x (by simp)).1 nc nk fr _ d e s G hw hE hB hN hd
 | .mk o m u t::y::l,ih,[],w,nc,nk,fr,sc0,d,e,s,G,hl,_,_,_,_,_,_=>by simp at hl
 | .mk o m u t::y::l,ih,v::vs,w,nc,nk,fr,sc0,d,e,s,G,hl,hw,hv,hE,hB,hN,hd=>by
  rw[Trm.wfL,if_pos rfl,Bool.and_eq_true,Bool.and_eq_true,decide_eq_true_eq] at hw
  obtain ⟨⟨ho,hx⟩,hw2⟩:=hw
  obtain rfl:o=19:=ho
  have hu:=zaw (by decide) (by decide) (zaE hx).2.1
  obtain rfl:u=[]:=List.eq_nil_of_length_eq_zero hu
  have hall:=zaW (by decide) (zaE hx).2.2.2
  rw[Trm.bndL,Trm.bnd,List.nil_append] at hN hB
  have hN1:=List.nodup_append.1 hN
  obtain ⟨s1,a1,a2,a3,a4⟩:=zb4 t (fun z hz=>(ih (.mk 19 m [] t) (by simp)).2 z hz) nc nk fr (Trm.addV sc0 w) d e s G hall hE (fun x hx h=>hB x hx (List.mem_append_left _ h)) hN1.1 hd
  rw[fixs]
  obtain ⟨p,hp⟩:∃p,allT lkL t s=p:=⟨_,rfl⟩
  rw[hp] at a1 a2 a3 a4 ⊢
  have hE1:=hE.or (fun q=>q∈p.1) a1 (fun x hx h=>hB x hx (List.mem_append_left _ h))
  have hf:Frag (fun r=>G r∨r∈p.1) p.2.code.length [⟨8,0,lkL p.2.vars v,0,p.1⟩] (fun r=>(G r∨r∈p.1)∨r = -1):=by
   refine .one _ _ ⟨8,0,lkL p.2.vars v,0,p.1⟩ (by simp) (fun r hr=>?_) (by simp)
   have hr:r=lkL p.2.vars v∨r∈p.1:=by simpa[named] using hr
   rcases hr with rfl | hr
   ·exact (hE1 v (hv v (by simp))).1
   ·exact .inr hr
  have l2:=Lays.put p.2 ⟨8,0,lkL p.2.vars v,0,p.1⟩ []
  have hE2:Env (fun r=>(G r∨r∈p.1)∨r = -1) d e (p.2.put ⟨8,0,lkL p.2.vars v,0,p.1⟩) (Trm.addV sc0 w):=hE1.step (fun _ h=>.inl h) l2 (by simp)
  obtain ⟨s2,b1,b2,b3⟩:=zel (y::l) (fun z hz=>ih z (by simp[hz])) vs w nc nk fr sc0 d e (p.2.put ⟨8,0,lkL p.2.vars v,0,p.1⟩) _ (by simpa using hl) hw2 (fun x hx=>hv x (by simp[hx])) hE2 (fun x hx h=>hB x hx (List.mem_append_right _ h)) hN1.2.1 (fun he=>Int.lt_of_lt_of_le (hd he) a1.regs)
  have hcat:=Frag.cat a2 (by rw[a1.code,List.length_append] at hf;exact hf)
  refine ⟨(s1++[⟨8,0,lkL p.2.vars v,0,p.1⟩])++s2,?_,by simp,Piece.after hcat (fun _ h=>.inl (.inl h)) ?_ b3⟩
  ·rw[Trm.bndL,Trm.bnd,List.nil_append]
   have:=(a1.trans l2).trans b1
   simpa using this
  ·simp[MSt.put,a1.code]
theorem zfc (s:MSt) (l r:List Ins) (x:Ins) (b:Int) (h:s.code=l++x::r):(s.setB l.length b).code=l ++ { x with b:=b }::r:=by
 show s.code.modify l.length _=_
 rw[h,zci]
theorem ziP (s:MSt) (l r:List Ins) (x:Ins) (k:Nat) (hk:k=l.length) (a:Int) (h:s.code=l++x::r):(s.setA k a).code=l ++ { x with a:=a }::r:=by
 subst hk
 show s.code.modify l.length _=_
 rw[h,zci]
theorem zfO {y z:Trm} (hy:LaysInto y) (hz:LaysInto z) {nc nk:Int} {fr:Bool} {sc:Int→Bool} {c d:Int} {e:Bool} {s:MSt} {G:Int→Prop} (wy:Trm.wf nc nk fr y sc=true) (wz:Trm.wf nc nk fr z sc=true) (hc:G c) (hE:Env G d e s sc) (hB:∀v,sc v=true→v∉y.bnd∧v∉z.bnd) (hNy:y.bnd.Nodup) (hNz:z.bnd.Nodup) (hd:e=false→d<s.regs) :
  ∃seg,Lays s (thens (into lkL y) (into lkL z) c d e s) seg (y.bnd++z.bnd)∧seg≠[]∧Piece e G d s.code.length seg:=by
 have l1:=Lays.put s ⟨16,0,c,0,[]⟩ []
 obtain ⟨s1,hs1⟩:∃s1,s.put ⟨16,0,c,0,[]⟩=s1:=⟨_,rfl⟩
 rw[hs1] at l1
 have hE1:Env G d e s1 sc:=hE.step (fun _ h=>h) l1 (by simp)
 have n1:s1.code.length=s.code.length+1:=by rw[l1.code];simp
 obtain ⟨sy,y1,y2,y3⟩:=hy nc nk fr sc d e s1 G wy hE1 (fun v hv=>(hB v hv).1) hNy (fun he=>Int.lt_of_lt_of_le (hd he) l1.regs)
 obtain ⟨s2,hs2⟩:∃s2,into lkL y d e s1=s2:=⟨_,rfl⟩
 rw[hs2] at y1
 have c2:s2.code=s.code++⟨16,0,c,0,[]⟩::sy:=by rw[y1.code,l1.code];simp
 unfold thens
 dsimp only
 rw[hs1,hs2]
 cases e with
 | true=>
  simp only[if_true]
  obtain ⟨s4,hs4⟩:∃s4,s2.setB s.code.length s2.len=s4:=⟨_,rfl⟩
  have c4:s4.code=s.code++⟨16,0,c,s2.len,[]⟩::sy:=by rw[←hs4];exact zfc s2 s.code sy _ _ c2
  have v4:s4.vars=s2.vars:=by rw[←hs4];rfl
  have r4:s4.regs=s2.regs:=by rw[←hs4];rfl
  have hl2:s2.len=(s.code.length+1+sy.length:Nat):=by simp[MSt.len,c2];omega
  have hE4:Env G d true s4 sc:=fun v hv=>by
   have:=(hE1.step (G':=G) (fun _ h=>h) y1 (fun v hv=>(hB v hv).1)) v hv
   rw[v4,r4];exact this
  obtain ⟨sz,z1,z2,z3⟩:=hz nc nk fr sc d true s4 G wz hE4 (fun v hv=>(hB v hv).2) hNz (fun he=>by cases he)
  have n4:s4.code.length=s.code.length+1+sy.length:=by rw[c4];simp;omega
  rw[hs4]
  refine ⟨⟨16,0,c,s2.len,[]⟩::(sy++sz),⟨by rw[z1.code,c4];simp,?_,fun x hx=>?_⟩,by simp,?_⟩
  ·have h1:=z1.regs;have h2:=y1.regs;have h3:=l1.regs;rw[r4] at h1;omega
  ·simp only[List.mem_append,not_or] at hx
   rw[z1.vars x hx.2,v4,y1.vars x hx.1,l1.vars x (by simp)]
  ·rw[hl2]
   rw[n4] at z3
   rw[n1] at y3
   exact FragE.cond c hc y3 z3
 | false=>
  simp only[Bool.false_eq_true,if_false]
  obtain ⟨s3,hs3⟩:∃s3,s2.put ⟨15,0,0,0,[]⟩=s3:=⟨_,rfl⟩
  have c3:s3.code=s.code++⟨16,0,c,0,[]⟩::(sy++[⟨15,0,0,0,[]⟩]):=by rw[←hs3];show s2.code++_=_;rw[c2];simp
  have v3:s3.vars=s2.vars:=by rw[←hs3];rfl
  have r3:s3.regs=s2.regs:=by rw[←hs3];rfl
  have hl3:s3.len=(s.code.length+1+sy.length+1:Nat):=by simp[MSt.len,c3];omega
  obtain ⟨s4,hs4⟩:∃s4,s3.setB s.code.length s3.len=s4:=⟨_,rfl⟩
  have c4:s4.code=s.code++⟨16,0,c,s3.len,[]⟩::(sy++[⟨15,0,0,0,[]⟩]):=by rw[←hs4];exact zfc s3 s.code _ _ _ c3
  have v4:s4.vars=s2.vars:=by rw[←hs4];exact v3
  have r4:s4.regs=s2.regs:=by rw[←hs4];exact r3
  have hE4:Env G d false s4 sc:=fun v hv=>by
   have:=(hE1.step (G':=G) (fun _ h=>h) y1 (fun v hv=>(hB v hv).1)) v hv
   rw[v4,r4];exact this
  obtain ⟨sz,z1,z2,z3⟩:=hz nc nk fr sc d false s4 G wz hE4 (fun v hv=>(hB v hv).2) hNz (fun he=>by
   have h1:=hd he;have h2:=y1.regs;have h3:=l1.regs;rw[r4];omega)
  have n4:s4.code.length=s.code.length+1+sy.length+1:=by rw[c4];simp;omega
  rw[hs3,hs4]
  obtain ⟨s5,hs5⟩:∃s5,into lkL z d false s4=s5:=⟨_,rfl⟩
  rw[hs5] at z1 ⊢
  have c5:s5.code=(s.code++⟨16,0,c,s3.len,[]⟩::sy)++⟨15,0,0,0,[]⟩::sz:=by rw[z1.code,c4];simp
  have hl5:s5.len=(s.code.length+1+sy.length+1+sz.length:Nat):=by simp[MSt.len,c5];omega
  have c6:=ziP s5 (s.code++⟨16,0,c,s3.len,[]⟩::sy) sz _ s2.code.length (by rw[c2];simp) s5.len c5
  refine ⟨⟨16,0,c,s3.len,[]⟩::(sy++⟨15,0,s5.len,0,[]⟩::sz),⟨by rw[c6];simp,?_,fun x hx=>?_⟩,by simp,?_⟩
  ·show s.regs≤s5.regs
   have h1:=z1.regs;have h2:=y1.regs;have h3:=l1.regs;rw[r4] at h1;omega
  ·simp only[List.mem_append,not_or] at hx
   show lkL s5.vars x=_
   rw[z1.vars x hx.2,v4,y1.vars x hx.1,l1.vars x (by simp)]
  ·rw[hl3,hl5]
   rw[n4] at z3
   rw[n1] at y3
   exact Frag.cond c hc y3 z3 z2
theorem zeW (l:List Trm) (ih:∀x∈l,LaysInto x) (hl:l.length=3) (nc nk:Int) (fr:Bool) (sc:Int→Bool) (d:Int) (e:Bool) (s:MSt) (G:Int→Prop) (hw:∀x∈l,Trm.wf nc nk fr x sc=true) (hE:Env G d e s sc) (hB:∀v,sc v=true→v∉Trm.bndL l) (hN:(Trm.bndL l).Nodup) (hd:e=false→d<s.regs) :
  ∃seg,Lays s (choice lkL l d e s) seg (Trm.bndL l)∧seg≠[]∧Piece e G d s.code.length seg:=by
 match l,hl with
 | [x,y,z],_=>
  simp only[Trm.bndL,List.append_nil] at hN hB ⊢
  have hN1:=List.nodup_append.1 hN
  have hN2:=List.nodup_append.1 hN1.2.1
  obtain ⟨s1,a1,a2,a3,a4⟩:=zcw (ih x (by simp)) (hw x (by simp)) hE (fun v hv hx=>hB v hv (List.mem_append_left _ hx)) hN1.1 hd
  rw[choice]
  obtain ⟨r,hr⟩:∃r,hadW lkL x.op x.n (into lkL x) s=r:=⟨_,rfl⟩
  rw[hr] at a1 a2 a3 a4 ⊢
  have hE1:=hE.or (fun q=>q=r.1) a1 (fun v hv hx=>hB v hv (List.mem_append_left _ hx))
  obtain ⟨s2,b1,b2,b3⟩:=zfO (ih y (by simp)) (ih z (by simp)) (hw y (by simp)) (hw z (by simp)) (c:=r.1) (.inr rfl) hE1 (fun v hv=>⟨fun hx=>hB v hv (by simp[hx]),fun hx=>hB v hv (by simp[hx])⟩) hN2.1 hN2.2.1 (fun he=>Int.lt_of_lt_of_le (hd he) a1.regs)
  exact ⟨s1++s2,a1.trans b1,by simp[b2],Piece.after a2 (fun _ h=>.inl h) (by rw[a1.code,List.length_append]) b3⟩
theorem lays_into:∀(k:Nat) (x:Trm),x.all≤k→LaysInto x
 | 0,x,h=>by have:=x.all_pos;omega
 | k+1,.mk op n v t,hk=>by
  intro nc nk fr sc d e s G hw hE hB hN hd
  have hp:=zaE hw
  have ih:∀x∈t,LaysInto x:=fun x hx=>lays_into k x (by have:=Trm.all_mem (o:=op) (n:=n) (v:=v) hx;omega)
  rw[into]
  rw[Trm.bnd] at hB hN ⊢
  have hN1:=List.nodup_append.1 hN
  by_cases h8:op=8
  ·subst h8
   rw[if_neg (by decide),if_neg (by decide),if_pos rfl]
   have hl:t.length=v.length+1:=by simpa[Trm.countsB] using hp.2.1
   exact zeq t ih (by intro h;simp[h] at hl) v [] nc nk fr sc d e s G hp.2.2.2 (by simp;omega) (by simp) hE (fun w hw=>⟨fun h=>hB w hw (by simp[h]),fun h=>hB w hw (by simp[h])⟩) hN hd
  by_cases h9:op=9
  ·subst h9
   rw[if_neg (by decide),if_neg (by decide),if_neg (by decide),if_pos rfl]
   have hl:t.length=v.length+1:=by simpa[Trm.countsB] using hp.2.1
   obtain ⟨s1,F,a1,a2,a3,a4⟩:=zeu v t hl sc d e s G hE (fun w hw h=>hB w hw (by simp[h])) hN1.1 hd
   obtain ⟨s2,b1,b2,b3⟩:=zel t (fun x hx=>⟨ih x hx,fun y hy=>lays_into k y (by
    have h1:=Trm.all_mem (o:=9) (n:=n) (v:=v) hx
    obtain ⟨o',n',v',t'⟩:=x
    have h2:=Trm.all_mem (o:=o') (n:=n') (v:=v') (show y∈t' from hy)
    omega)⟩) v v nc nk fr sc d e _ F hl hp.2.2.2 (fun x hx=>by simp[Trm.addV,hx]) a4 (fun x hx h=>by
     by_cases hv:x∈v
     ·exact hN1.2.2 x hv x h rfl
     ·exact hB x (by simpa[Trm.addV,hv] using hx) (by simp[h])) hN1.2.1 (fun he=>Int.lt_of_lt_of_le (hd he) a1.regs)
   exact ⟨s1++s2,a1.trans b1,by simp[b2],Piece.after a2 a3 (by rw[a1.code,List.length_append]) b3⟩
  have hv0:=zaw h8 h9 hp.2.1
  obtain rfl:v=[]:=List.eq_nil_of_length_eq_zero hv0
  have hall:=zaW h9 hp.2.2.2
  simp only[List.nil_append] at hB hN ⊢
  by_cases h3:op=3
  ·subst h3
   rw[if_pos rfl]
   exact zeW t ih (by simpa[Trm.countsB] using hp.2.1) nc nk fr sc d e s G hall hE hB hN hd
  rw[if_neg h3]
  by_cases h6:op=6
  ·subst h6
   rw[if_pos rfl]
   have hl:1≤t.length:=by simpa[Trm.countsB] using hp.2.1
   exact zeh t ih (by intro h;simp[h] at hl) nc nk fr sc d e s G hall hE hB hN hd
  rw[if_neg h6,if_neg h8,if_neg h9]
  by_cases h1:op=1
  ·subst h1
   have hs:sc n=true:=by simpa[Trm.numberB] using hp.2.2.1
   have he:=hE n hs
   cases e with
   | true=>
    rw[if_pos rfl,if_neg (by simp[endsB]),if_pos rfl]
    exact ⟨[_],.put s _ _,by simp,.one G _ ⟨22,0,lkL s.vars n,0,[]⟩ (by simp) (by simpa[named] using he.1)⟩
   | false=>
    rw[if_neg (by simp),if_pos rfl]
    exact ⟨[_],.put s _ _,by simp,.one G _ ⟨1,d,lkL s.vars n,0,[]⟩ (by simp) (by simpa[named] using he.1) (fun h=>he.2.1 rfl h.2)⟩
  have hpl:=zdU hp.1 h1 h3 h6 h8 h9
  cases e with
  | true=>
   rw[if_pos rfl]
   by_cases hen:endsB op n=true
   ·rw[if_pos hen]
    obtain ⟨s1,a1,a2,a3,a4⟩:=zb4 t ih nc nk fr sc d true s G hall hE hB hN hd
    obtain ⟨s2,b1,b2,b3⟩:=zgq (fun r=>G r∨r∈(allT lkL t s).1) op n (allT lkL t s).1 (allT lkL t s).2 hen (by rw[a3];exact zeY hen hp.2.1) (fun r hr=>.inr hr)
    exact ⟨s1++s2,by simpa using a1.trans b1,by simp[b2],.cat a2 (by rw[a1.code,List.length_append] at b3;exact b3)⟩
   ·rw[if_neg hen,if_neg h1]
    obtain ⟨s1,a1,a2,a3,a4⟩:=zb4 t ih nc nk fr sc s.regs false s.fresh G hall hE.fresh hB hN (fun _=>by simp only[MSt.fresh];omega)
    obtain ⟨s2,b1,b2,b3⟩:=zc3 (fun r=>G r∨r∈(allT lkL t s.fresh).1) op n s.regs (allT lkL t s.fresh).1 (allT lkL t s.fresh).2 t.length hpl hp.2.1 a3 (fun r hr=>.inr hr)
    obtain ⟨sf,hsf⟩:∃sf,strict op n s.regs (allT lkL t s.fresh).1 (allT lkL t s.fresh).2=sf:=⟨_,rfl⟩
    rw[hsf] at b1 ⊢
    have lf:=((Lays.fresh s []).trans a1).trans (b1.trans (Lays.put sf ⟨22,0,s.regs,0,[]⟩ []))
    have e1:s.fresh.code.length=s.code.length:=rfl
    refine ⟨s1++(s2++[⟨22,0,s.regs,0,[]⟩]),by simpa using lf,by simp,.cat (E:=fun r=>G r∨r∈(allT lkL t s.fresh).1) (by rw[e1] at a2;exact a2) (.cat (by rw[a1.code,List.length_append,e1] at b3;exact b3) (.one _ _ _ (by simp) (by simp[named])))⟩
  | false=>
   rw[if_neg (by simp),if_neg h1]
   obtain ⟨s1,a1,a2,a3,a4⟩:=zb4 t ih nc nk fr sc d false s G hall hE hB hN hd
   obtain ⟨s2,b1,b2,b3⟩:=zc3 (fun r=>G r∨r∈(allT lkL t s).1) op n d (allT lkL t s).1 (allT lkL t s).2 t.length hpl hp.2.1 a3 (fun r hr=>.inr hr)
   refine ⟨s1++s2,by simpa using a1.trans b1,by simp[b2],?_⟩
   refine .sub (.cat a2 (by rw[a1.code,List.length_append] at b3;exact b3)) fun r hr=>?_
   rcases hr with hr | hr
   ·exact .inl (.inl hr)
   ·exact .inr hr
end Mk
end
section
open Go.RowKit
theorem zd7 {l l':List Int} {j:Nat} {x:Int} (h:l[j]?=some x) (h':l'[j]?=some x) (ht:l.take j=l'.take j):l.take (j+1)=l'.take (j+1):=by
 rw[List.take_add_one,List.take_add_one,h,h',ht]
theorem zfQ (l l':List Int) (sl sl':Value) (B:Nat) (w:World) (hv:SlC w B 1 IntR l sl) (hv':SlC w B 1 IntR l' sl') (r:Bool) (hr:decide (l=l')=r) :
  Calls prog 44 #[sl,sl'] w fun e w'=>e=.returned (.bool r)∧∃nd,w'=w.drewN nd:=by
 obtain ⟨o,n,c,rfl⟩:=hv.form
 obtain ⟨o',n',c',rfl⟩:=hv'.form
 obtain ⟨hn,hc,hm⟩:=hv.lens
 obtain ⟨hn',hc',hm'⟩:=hv'.lens
 have HV:=zh hv
 have HV':=zh hv'
 have HN:=zh hn
 have HN':=zh hn'
 have HR:=zh hr
 by_cases hne:n=n'
 ·clear hv hv' hr hn hn'
  subst hne
  have d0:((n:Int) != (n:Int))=false:=by simp
  go_enter func44,ntmps44
  go_wp2_with fail
  go_loopg [5] n (fun g i wr=>∃j:Nat,g=n-j∧j≤n∧i=.int .i64 j∧Hid (l.take j=l'.take j)∧∃nd,wr=w.drewN nd)
  case atStart=>exact ⟨0,rfl,by omega,rfl,rfl,0,rfl⟩
  case round=>
   obtain ⟨j,rfl,hj,rfl,HT,nd,rfl⟩:=hrel
   by_cases hjl:j<n
   ·obtain ⟨x,hx⟩:∃x,l[j]?=some x:=⟨_,List.getElem?_eq_getElem (by rw[←HN.out];exact hjl)⟩
    obtain ⟨y,hy⟩:∃y,l'[j]?=some y:=⟨_,List.getElem?_eq_getElem (by rw[←HN'.out];exact hjl)⟩
    obtain ⟨b1,off1,cs,ho1,_,_,hcell,hR⟩:=HV.out.at (Below.refl _ _) hx
    obtain ⟨b2,off2,ds,ho2,_,_,hdell,hR'⟩:=HV'.out.at (Below.refl _ _) hy
    subst ho1 ho2
    obtain ⟨rfl,_⟩:=hR
    obtain ⟨rfl,_⟩:=hR'
    have e0:=hcell 0 _ rfl
    have f0:=hdell 0 _ rfl
    rw[Nat.mul_one,Nat.add_zero] at e0 f0
    have HX:=zh hx
    have HY:=zh hy
    clear hx hy hcell hdell
    by_cases hxy:x=y
    ·subst hxy
     have g0:((x:Int) != x)=false:=by simp
     have HT2:=zh (zd7 HX.out HY.out HT.out)
     go_wp2_with fail
     go_quiet (fail)
     go_wp2_with fail
     go_roundg (n-(j+1))
     case measure=>omega
     case rel=>exact ⟨j+1,rfl,by omega,by go_num,HT2,_,rfl⟩
    ·have g0:(x != y)=true:=by simpa using hxy
     obtain rfl:r=false:=by
      rw[←HR.out]
      refine decide_eq_false fun e=>hxy ?_
      have h1:=HX.out
      rw[e,HY.out] at h1
      exact (Option.some.inj h1).symm
     go_wp2_with fail
     go_quiet (fail)
     go_wp2_with fail
     go_ret
     exact ⟨rfl,nd+nq,World.drewN_drewN _ _ _⟩
   ·obtain rfl:j=n:=by omega
    obtain rfl:r=true:=by
     rw[←HR.out]
     refine decide_eq_true ?_
     have h1:=HT.out
     rwa[List.take_of_length_le (by rw[←HN.out];exact Nat.le_refl _),List.take_of_length_le (by rw[←HN'.out];exact Nat.le_refl _)] at h1
    go_wp2_with fail
    go_ret
    exact ⟨rfl,_,rfl⟩
 ·obtain rfl:r=false:=by
   rw[←hr]
   exact decide_eq_false fun e=>hne (by rw[hn,hn',e])
  have d0:((n:Int) != (n':Int))=true:=by simpa using fun e=>hne (by omega)
  clear hv hv' hr hn hn'
  go_enter func44,ntmps44
  go_wp2_with fail
  go_ret
  exact ⟨rfl,0,rfl⟩
theorem zd0 (x:Ins) (c0 c1 c2 c3 c4 d0 d1 d2 d3 d4:Value) (B:Nat) (w:World) (hx:InsR w B x [c0,c1,c2,c3,c4]) (hy:InsR w B x [d0,d1,d2,d3,d4]) (hB:B≤w.heap.size) :
  Calls prog 43 #[.agg #[c0,c1,c2,c3,c4],.agg #[d0,d1,d2,d3,d4]] w fun e w'=>e=.returned (.bool true)∧Below w.heap.size w w':=by
 obtain ⟨k,d,a,b,l⟩:=x
 obtain ⟨sl,he,_,_,_,_,hl⟩:=hx
 obtain ⟨sl',he',_,_,_,_,hl'⟩:=hy
 simp only[List.cons.injEq,and_true] at he he'
 obtain ⟨rfl,rfl,rfl,rfl,rfl⟩:=he
 obtain ⟨rfl,rfl,rfl,rfl,rfl⟩:=he'
 obtain ⟨o,n,c,rfl⟩:=hl.form
 obtain ⟨o',n',c',rfl⟩:=hl'.form
 have HC:=zh (fun X Y=>zfQ l l _ _ B ((w.alloc X).alloc Y) (hl.kept (((Below.one w X).trans ((Below.one _ Y).mono (by simp))).mono hB) fun _ _ _ h=>h) (hl'.kept (((Below.one w X).trans ((Below.one _ Y).mono (by simp))).mono hB) fun _ _ _ h=>h) true (by simp))
 clear hl hl'
 go_enter func43,ntmps43
 go_wp2_with fail
 refine (HC.out _ _).mono ?_
 rintro e w1 ⟨rfl,nd,rfl⟩
 go_wp2_with fail
 go_ret
 exact ⟨rfl,⟨rfl,rfl,rfl,by simp[World.drewN];omega,fun b hb=>((Below.one w _).trans ((Below.one _ _).mono (by simp))).block b hb⟩⟩
end
section
open Go.RowKit
end
section
open Go.RowKit
theorem zce {α:Type} {w:World} {B b size n:Nat} {te:TypeId} {R:α→List Value→Prop} {l:List α} {cs:List Value} (hb:BoxL w b te cs) (hB:b<B) (hc:CellsG size R l cs) (hn:n=l.length) (hm:n≤1000000):SlC w B size R l (.slice (some ⟨b,0,none⟩) n n):=by
 refine ⟨_,n,n,rfl,hn,Nat.le_refl _,by omega,fun _=>⟨rfl,hB⟩,fun i x hx=>?_⟩
 obtain ⟨cs',h1,h2,h3⟩:=hc.at hx
 exact ⟨cs',h1,fun j u hj=>by have:=h3 j u hj;simpa using hb.cell _ this,h2⟩
theorem zfu (w:World) (B:Nat):SlC w B 1 IntR [] (.slice none 0 0):=⟨none,0,0,rfl,rfl,by omega,by omega,rfl,rfl⟩
namespace Live
end Live
end
section
open Go.RowKit
namespace Live
open Unt Peep
end Live
end
section
open Go Go.RowKit
theorem SlC.takes {α:Type} {w:World} {B size:Nat} {R:α→List Value→Prop} {l:List α} {o:Option Addr} {len cap n:Nat} (h:SlC w B size R l (.slice o len cap)) (hn:n≤len):SlC w B size R (l.take n) (.slice o n cap):=by
 obtain ⟨o',len',cap',he,h1,h2,h3,h4⟩:=h
 simp only[Value.slice.injEq] at he
 obtain ⟨rfl,rfl,rfl⟩:=he
 refine ⟨o,n,cap,rfl,by rw[List.length_take];omega,by omega,h3,?_⟩
 cases o with
 | none=>exact ⟨by rw[h4.1];simp,h4.2⟩
 | some a=>
  refine ⟨fun hl=>h4.1 (fun e=>hl (by rw[e];simp)),fun i x hx=>h4.2 i x ?_⟩
  rw[List.getElem?_take] at hx
  split at hx
  ·exact hx
  ·cases hx
theorem SlC.drops {α:Type} {w:World} {B size:Nat} {R:α→List Value→Prop} {l:List α} {b off len cap n:Nat} (h:SlC w B size R l (.slice (some ⟨b,off,none⟩) len cap)) (hn:n≤len):SlC w B size R (l.drop n) (.slice (some ⟨b,off+n*size,none⟩) (len-n) (cap-n)):=by
 obtain ⟨o',len',cap',he,h1,h2,h3,h4⟩:=h
 simp only[Value.slice.injEq] at he
 obtain ⟨rfl,rfl,rfl⟩:=he
 refine ⟨_,len-n,cap-n,rfl,by rw[List.length_drop];omega,by omega,by omega,fun hl=>⟨rfl,(h4.1 (fun e=>hl (by rw[e];simp))).2⟩,fun i x hx=>?_⟩
 rw[List.getElem?_drop] at hx
 obtain ⟨cs,g1,g2,g3⟩:=h4.2 (n+i) x hx
 refine ⟨cs,g1,fun j u hj=>?_,g3⟩
 have:=g2 j u hj
 rw[show off+n*size+i*size+j=off+(n+i)*size+j by rw[Nat.add_mul];omega]
 exact this
theorem zdb (o n:Int) (vs ts:Value) (ov ot:Option Addr) (lv cv lt ct:Nat) (hv:vs=.slice ov lv cv) (ht:ts=.slice ot lt ct) (pb:Nat) (w:World) (hp:BoxL w pb 3 [.int .i64 19]) :
  Calls prog 91 #[.agg #[.int .i64 o,.int .i64 n,vs,ts],.pointer (some ⟨pb,0,none⟩)] w fun e w'=>e=.returned (.bool (o != 19))∧Below w.heap.size w w':=by
 subst hv ht
 have p0:=hp.cell 0 rfl
 have pl:=hp.lt
 clear hp
 by_cases h:o=19
 ·subst h
  go_enter func91,ntmps91
  go_wp2_with fail
  go_ret
  exact ⟨rfl,Below.one w _⟩
 ·have f0:(o != 19)=true:=by simpa using h
  go_enter func91,ntmps91
  go_wp2_with fail
  go_ret
  exact ⟨by rw[f0];rfl,Below.one w _⟩
theorem zc9 (l:List Trm) (sl:Value) (B cb:Nat) (nc nk size:Int) (fr:Bool) (bb:Nat) (w:World) (hv:TrmS w B l sl) (hB:B≤w.heap.size) (hc:BoxL w cb 70 [.int .i64 3,.int .i64 nc,.int .i64 nk,.bool fr,.int .i64 size,.map (some bb)]) :
  Calls prog 64 #[.pointer (some ⟨cb,0,none⟩),sl] w fun e w'=>e=.returned (.bool (l.all fun x=>x.op==19))∧Below w.heap.size w w':=by
 obtain ⟨r,hr⟩:∃r,(l.all fun x=>x.op==19)=r:=⟨_,rfl⟩
 rw[hr]
 have HR:=zh hr
 obtain ⟨W1,hW1⟩:∃W1,w.alloc (.cells #[.int .i64 19] 3)=W1:=⟨_,rfl⟩
 have HW:=zh hW1
 have HB1:=zh (show Below w.heap.size w W1 from by rw[←hW1];exact Below.one w _)
 have HP:=zh (show BoxL W1 w.heap.size 3 [.int .i64 19] from by rw[←hW1];exact BoxL.new rfl _ _)
 have HS:=zh (TrmS.kept hv (HB1.out.mono hB))
 obtain ⟨o,len,cap,rfl,h1,h2,h3⟩:=SlC.slice hv
 have hbw:B≤W1.heap.size:=Nat.le_trans hB HB1.out.size
 have HC:=zh (zcQ 91 #[.pointer (some ⟨w.heap.size,0,none⟩)] l (.slice o len cap) B W1 (fun j W=>(l.take j).all (fun x=>x.op==19)=true∧Below W1.heap.size W1 W) (fun W=>r=false∧Below W1.heap.size W1 W) HS.out (fun _ _=>rfl) (fun j W h=>h.2.mono hbw) ⟨by simp,Below.refl _ _⟩ (fun j x hx c0 c1 c2 c3 W ht hst=>by
  obtain ⟨op,n,v,t⟩:=x
  obtain ⟨vs,ts,he,_,_,hvs,hts⟩:=zas.1 ht
  simp only[List.cons.injEq,and_true] at he
  obtain ⟨rfl,rfl,rfl,rfl⟩:=he
  obtain ⟨ov,lv,cv,rfl⟩:=hvs.form
  obtain ⟨ot,lt,ct,rfl⟩:=hts.form
  refine (zdb op n _ _ ov ot lv cv lt ct rfl rfl w.heap.size W (HP.out.keep hst.2)).mono ?_
  rintro e W' ⟨rfl,hb⟩
  refine ⟨_,rfl,fun h=>⟨?_,Below.next hst.2 hb⟩,fun h=>⟨?_,Below.next hst.2 hb⟩⟩
  ·rw[←HR.out]
   rw[List.all_eq_false]
   exact ⟨_,List.mem_of_getElem? hx,by simpa[Trm.op] using h⟩
  ·rw[List.take_add_one,hx,List.all_append,hst.1]
   simpa[Trm.op] using h))
 have c0:=(hc.keep (Below.one w (.cells #[.int .i64 4] 3))).cell 0 rfl
 have cl:=hc.lt
 clear hr hv hc hW1 h1 h2 h3
 go_enter func64,ntmps64
 go_upto_region 4 with fail
 rw[HW.out]
 go_wp2_with fail
 refine HC.out.mono ?_
 rintro e w1 ⟨c,rfl,h1,h2⟩
 have H1:=zh h1
 have H2:=zh h2
 clear h1 h2
 cases c with
 | true=>
  go_wp2_with fail
  go_ret
  obtain ⟨h0,hb⟩:=H1.out trivial
  subst h0
  exact ⟨rfl,HB1.out.trans (hb.mono HB1.out.size)⟩
 | false=>
  go_wp2_with fail
  go_ret
  have h:=H2.out trivial
  rw[List.take_of_length_le (Nat.le_refl _),HR.out] at h
  obtain ⟨h0,hb⟩:=h
  subst h0
  exact ⟨rfl,HB1.out.trans (hb.mono HB1.out.size)⟩
theorem zaH (op n:Int) (v:List Int) (ov ot:Option Addr) (lv cv lt ct:Nat) (B tb qb sb m:Nat) (g:Int→Bool) (w:World) (hv:SlC w B 1 IntR v (.slice ov lv cv)) (hB:B≤w.heap.size) (hsB:B≤sb)
  (ht:BoxL w tb 27 [.int .i64 op,.int .i64 n,.slice ov lv cv,.slice ot lt ct]) (hq:BoxL w qb 68 [.map (some sb)]) (hm:MapVB w sb m g) :
  CallsD prog 61 #[.pointer (some ⟨tb,0,none⟩),.pointer (some ⟨qb,0,none⟩)] .returning w fun e u' w'=>u'=.returning∧(e=.returned (.tuple #[])∧MapVB w' sb m (fun x=>g x && !v.contains x)∧Turned (fun b=>b=sb) w w'):=by
 obtain ⟨hlen,hcap,hmax⟩:=hv.lens
 have HV:=zh hv
 have HL:=zh hlen
 have HT:=zh ht
 have HQ:=zh hq
 have HM:=zh hm
 have hts:tb≠sb:=zaD hm ht
 have hqs:qb≠sb:=zaD hm hq
 have t2:=ht.cell 2 rfl
 have tl:=ht.lt
 clear hv hlen ht hq hm
 go_enter_d func61,ntmps61
 go_wp2_with fail
 go_loopg [7] lv (fun G i wr=>∃(j:Nat),G=lv-j∧i=.int .i64 j∧j≤lv∧Hid (MapVB wr sb m (fun x=>g x && !(v.take j).contains x))∧Hid (Turned (fun b=>b=sb) w wr))
 case atStart=>exact ⟨0,rfl,rfl,by omega,zh (by simpa using HM.out),zh (Turned.refl _ _)⟩
 case round=>
  obtain ⟨j,rfl,rfl,hj,HA,HTU⟩:=hrel
  by_cases hjl:j<lv
  ·obtain ⟨x,hx⟩:∃x,v[j]?=some x:=⟨_,List.getElem?_eq_getElem (by rw[←HL.out];exact hjl)⟩
   obtain ⟨b,off,cs,ho,_,hcl,hcell,hir⟩:=HV.out.at (HTU.out.below (fun b hb=>by rw[hb];exact hsB) hB) hx
   subst ho
   obtain ⟨rfl,hxi⟩:=hir
   have e0:=hcell 0 _ rfl
   simp only[Nat.add_zero,Nat.mul_one] at e0
   have HTK:=zh (show v.take (j+1)=v.take j++[x] by rw[List.take_add_one,hx];rfl)
   have HI:=zh hxi
   have q0:=(HTU.out.box HQ.out hqs).cell 0 rfl
   have ql:=(HTU.out.box HQ.out hqs).lt
   clear hx hcell hxi
   go_wp2_with (at_delete;refine zej rfl _ _ rfl sb m _ rfl HA.out x rfl HI.out ?_;intro w1 hm1 hg1;have HM1:=zh hm1;have HG1:=zh hg1;clear hm1 hg1)
   go_roundg (lv-(j+1))
   case measure=>omega
   case rel=>
    refine ⟨j+1,rfl,by go_num,by omega,zh ?_,zh (HTU.out.next (Turned.grown HG1.out (fun b hb=>by simpa using hb.symm)))⟩
    have e:(fun y=>g y && !(v.take (j+1)).contains y)=fun y=>if y=x then false else (g y && !(v.take j).contains y):=by
     funext y
     rw[HTK.out]
     by_cases h:y=x
     ·simp[h]
     ·simp[h]
    rw[e]
    exact HM1.out
  ·obtain rfl:j=lv:=by omega
   have HE:=zh (show v.take j=v from List.take_of_length_le (by rw[←HL.out];exact Nat.le_refl _))
   have HM2:=HA.out
   rw[HE.out] at HM2
   have HM3:=zh HM2
   clear HM2
   go_wp2_with fail
   go_end0
   exact ⟨rfl,HM3.out,HTU.out⟩
end
section
namespace Mk
theorem zfo:∀(l:List (Int × Int)) (v:Int),v∉l.map Prod.fst→lkF l v=0
 | [],_,_=>rfl
 | p::l,v,h=>by
  simp only[List.map_cons,List.mem_cons,not_or] at h
  rw[lkF,if_neg (fun e=>h.1 e.symm),zfo l v h.2]
theorem zlF (l:List (Int × Int)) (v:Int):(l.any fun q=>q.1==v)=decide (v∈l.map Prod.fst):=by
 rw[Bool.eq_iff_iff];simp only[List.any_eq_true,decide_eq_true_eq,List.mem_map,beq_iff_eq]
theorem zkF:∀(l:List (Int × Int)) (v:Int),(l.map Prod.fst).Nodup→lkF l v=lkL l v
 | [],_,_=>rfl
 | p::l,v,h=>by
  simp only[List.map_cons,List.nodup_cons] at h
  rw[lkF,lkL,zlF]
  by_cases hv:v∈l.map Prod.fst
  ·rw[if_neg (fun e=>h.1 (by rw[e];exact hv)),zkF l v h.2,if_pos (decide_eq_true hv)]
  ·rw[zfo l v hv,if_neg (show ¬decide (v∈l.map Prod.fst)=true from fun h=>hv (of_decide_eq_true h))]
def keys (s:MSt):List Int:=s.vars.map Prod.fst
def KP (s s':MSt) (B:List Int):Prop:=∃m,m.Perm B∧keys s'=keys s++m
theorem KP.refl (s:MSt):KP s s []:=⟨[],.refl _,by simp⟩
theorem KP.trans {s s' s'':MSt} {A B:List Int} (h:KP s s' A) (h':KP s' s'' B):KP s s'' (A++B):=by
 obtain ⟨m,h1,h2⟩:=h
 obtain ⟨m',h3,h4⟩:=h'
 exact ⟨m++m',h1.append h3,by rw[h4,h2,List.append_assoc]⟩
theorem KP.perm {s s':MSt} {A B:List Int} (h:KP s s' A) (hp:A.Perm B):KP s s' B:=by
 obtain ⟨m,h1,h2⟩:=h
 exact ⟨m,h1.trans hp,h2⟩
theorem KP.same {s s':MSt} (h:s'.vars=s.vars):KP s s' []:=⟨[],.refl _,by simp[keys,h]⟩
theorem KP.left {s s' t:MSt} {A:List Int} (h:KP s s' A) (e:t.vars=s.vars):KP t s' A:=by
 obtain ⟨m,h1,h2⟩:=h
 exact ⟨m,h1,by rw[h2];simp[keys,e]⟩
theorem KP.right {s s' t:MSt} {A:List Int} (h:KP s s' A) (e:t.vars=s'.vars):KP s t A:=by
 obtain ⟨m,h1,h2⟩:=h
 exact ⟨m,h1,by rw[←h2];simp[keys,e]⟩
theorem KP.nodup {s s':MSt} {A:List Int} (h:KP s s' A) {C:List Int} (hn:(keys s++(A++C)).Nodup):(keys s'++C).Nodup:=by
 obtain ⟨m,h1,h2⟩:=h
 rw[h2]
 have:(keys s++(A++C)).Perm (keys s++m++C):=by
  rw[List.append_assoc]
  exact (h1.symm.append_right C).append_left _
 exact this.nodup_iff.1 hn
theorem KP.bind (s:MSt) (v rs:List Int) (h:rs.length=v.length):KP s (s.bind v rs) v:=⟨v,.refl _,by simp[keys,MSt.bind,List.map_fst_zip,h]⟩
theorem zfg {c:Prop} [Decidable c] {a b:MSt} {v:List (Int × Int)} (ha:a.vars=v) (hb:b.vars=v):(if c then a else b).vars=v:=by split<;>assumption
theorem zcH (op n d:Int) (l:List Int) (s:MSt):(strict op n d l s).vars=s.vars:=by
 unfold strict
 repeat' (refine zfg ?_ ?_)
 all_goals rfl
theorem zgf (op n:Int) (l:List Int) (s:MSt):(ended op n l s).vars=s.vars:=by
 unfold ended
 repeat' (refine zfg ?_ ?_)
 all_goals rfl
def EqI (x:Trm):Prop:=∀(nc nk:Int) (fr:Bool) (sc:Int→Bool) (d:Int) (e:Bool) (s:MSt),Trm.wf nc nk fr x sc=true→(keys s++x.bnd).Nodup→into lkF x d e s=into lkL x d e s∧KP s (into lkL x d e s) x.bnd
theorem lk_of {s:MSt} {B:List Int} (h:(keys s++B).Nodup) (v:Int):lkF s.vars v=lkL s.vars v:=zkF _ _ (List.nodup_append.1 h).1
theorem ze9 {x:Trm} (hx:EqI x) {nc nk:Int} {fr:Bool} {sc:Int→Bool} {s:MSt} (hw:Trm.wf nc nk fr x sc=true) (hn:(keys s++x.bnd).Nodup) :
  hadW lkF x.op x.n (into lkF x) s=hadW lkL x.op x.n (into lkL x) s∧KP s (hadW lkL x.op x.n (into lkL x) s).2 x.bnd:=by
 obtain ⟨op,n,v,t⟩:=x
 by_cases h1:op=1
 ·subst h1
  have hp:=zaE hw
  have hv:v=[]:=List.eq_nil_of_length_eq_zero (zaw (by decide) (by decide) hp.2.1)
  have ht:t=[]:=by
   have:=hp.2.1
   simp[Trm.countsB] at this
   exact this.2
  subst hv ht
  simp only[hadW,Trm.op,Trm.n,↓reduceIte]
  exact ⟨by rw[lk_of hn],by simpa[Trm.bnd,Trm.bndL] using KP.refl s⟩
 ·have h:=hx nc nk fr sc s.regs false s.fresh hw hn
  have e1:∀lk,hadW lk (Trm.mk op n v t).op (Trm.mk op n v t).n (into lk (Trm.mk op n v t)) s=(s.regs,into lk (Trm.mk op n v t) s.regs false s.fresh):=fun lk=>if_neg h1
  rw[e1,e1]
  exact ⟨by rw[h.1],h.2.left rfl⟩
theorem ze0:∀(l:List Trm),(∀x∈l,EqI x)→∀(nc nk:Int) (fr:Bool) (sc:Int→Bool) (s:MSt),(∀x∈l,Trm.wf nc nk fr x sc=true)→(keys s++Trm.bndL l).Nodup→allT lkF l s=allT lkL l s∧KP s (allT lkL l s).2 (Trm.bndL l)
 | [],_,_,_,_,_,s,_,_=>⟨by rw[allT,allT],by rw[allT];exact KP.refl s⟩
 | x::l,ih,nc,nk,fr,sc,s,hw,hn=>by
  rw[Trm.bndL] at hn
  have h1:=ze9 (ih x (by simp)) (hw x (by simp)) (s:=s) (by rw[←List.append_assoc] at hn;exact (List.nodup_append.1 hn).1)
  obtain ⟨r,hr⟩:∃r,hadW lkL x.op x.n (into lkL x) s=r:=⟨_,rfl⟩
  rw[hr] at h1
  have h2:=ze0 l (fun y hy=>ih y (by simp[hy])) nc nk fr sc r.2 (fun y hy=>hw y (by simp[hy])) (h1.2.nodup hn)
  rw[allT,allT,hr,h1.1,Trm.bndL]
  dsimp only
  rw[h2.1]
  exact ⟨rfl,h1.2.trans h2.2⟩
theorem zhm:∀(l:List Trm),(∀x∈l,EqI x)→∀(nc nk:Int) (fr:Bool) (sc:Int→Bool) (d:Int) (e:Bool) (s:MSt),(∀x∈l,Trm.wf nc nk fr x sc=true)→(keys s++Trm.bndL l).Nodup→seqs lkF l d e s=seqs lkL l d e s∧KP s (seqs lkL l d e s) (Trm.bndL l)
 | [],_,_,_,_,_,d,e,s,_,_=>⟨by rw[seqs,seqs],by rw[seqs];exact KP.refl s⟩
 | [x],ih,nc,nk,fr,sc,d,e,s,hw,hn=>by
  simp only[Trm.bndL,List.append_nil] at hn ⊢
  rw[seqs,seqs]
  exact ih x (by simp) nc nk fr sc d e s (hw x (by simp)) hn
 | x::y::l,ih,nc,nk,fr,sc,d,e,s,hw,hn=>by
  rw[Trm.bndL] at hn
  have h1:=ze9 (ih x (by simp)) (hw x (by simp)) (s:=s) (by rw[←List.append_assoc] at hn;exact (List.nodup_append.1 hn).1)
  obtain ⟨r,hr⟩:∃r,hadW lkL x.op x.n (into lkL x) s=r:=⟨_,rfl⟩
  rw[hr] at h1
  have h2:=zhm (y::l) (fun z hz=>ih z (by simp[hz])) nc nk fr sc d e r.2 (fun z hz=>hw z (by simp[hz])) (h1.2.nodup hn)
  rw[seqs,seqs,hr,h1.1,Trm.bndL]
  rw[h2.1]
  exact ⟨rfl,h1.2.trans h2.2⟩
theorem zhA:∀(l:List Trm),(∀x∈l,EqI x)→l≠[]→∀(v rs:List Int) (nc nk:Int) (fr:Bool) (sc:Int→Bool) (d:Int) (e:Bool) (s:MSt),Trm.wfL nc nk fr 8 v l sc=true→(l.length-1)+rs.length=v.length→(keys s++(v++Trm.bndL l)).Nodup →
  lets lkF l v rs d e s=lets lkL l v rs d e s∧KP s (lets lkL l v rs d e s) (v++Trm.bndL l)
 | [],_,hne,_,_,_,_,_,_,_,_,_,_,_,_=>absurd rfl hne
 | [x],ih,_,v,rs,nc,nk,fr,sc,d,e,s,hw,hl,hn=>by
  rw[Trm.wfL] at hw
  simp only[Trm.bndL,List.append_nil] at hn ⊢
  rw[lets,lets]
  have hk:=KP.bind s v rs (by simpa using hl)
  have h:=ih x (by simp) nc nk fr _ d e (s.bind v rs) hw (hk.nodup hn)
  exact ⟨h.1,hk.trans h.2⟩
 | x::y::l,ih,_,v,rs,nc,nk,fr,sc,d,e,s,hw,hl,hn=>by
  rw[Trm.wfL,if_neg (by decide),Bool.and_eq_true] at hw
  rw[Trm.bndL] at hn
  have hpm:(v++(x.bnd++Trm.bndL (y::l))).Perm (x.bnd++(v++Trm.bndL (y::l))):=by
   rw[←List.append_assoc,←List.append_assoc]
   exact List.perm_append_comm.append_right _
  have hn':(keys s++(x.bnd++(v++Trm.bndL (y::l)))).Nodup:=(hpm.append_left (keys s)).nodup_iff.1 hn
  have h1:=ze9 (ih x (by simp)) hw.1 (s:=s) (by rw[←List.append_assoc] at hn';exact (List.nodup_append.1 hn').1)
  obtain ⟨r,hr⟩:∃r,hadW lkL x.op x.n (into lkL x) s=r:=⟨_,rfl⟩
  rw[hr] at h1
  have h2:=zhA (y::l) (fun z hz=>ih z (by simp[hz])) (by simp) v (rs++[r.1]) nc nk fr sc d e r.2 hw.2 (by simp at hl ⊢;omega) (h1.2.nodup hn')
  rw[lets,lets,hr,h1.1]
  rw[h2.1]
  refine ⟨rfl,(h1.2.trans h2.2).perm ?_⟩
  rw[show Trm.bndL (x::y::l)=x.bnd++Trm.bndL (y::l) from by rw[Trm.bndL]]
  exact hpm.symm
theorem ziw:∀(v:List Int) (t:List Trm),t.length=v.length+1→∀s:MSt,KP s (fix1 v t s) v
 | [],t,_,s=>by
  rw[fix1]
  ·exact KP.refl s
  ·simp
 | v::vs,[],h,s=>by simp at h
 | v::vs,x::l,h,s=>by
  rw[fix1]
  have h1:KP s ((s.fresh.bind [v] [s.regs]).put ⟨7,s.regs,x.n,0,[]⟩) [v]:=((KP.bind s.fresh [v] [s.regs] rfl).left rfl).right rfl
  exact h1.trans (ziw vs l (by simpa using h) _)
theorem zhP:∀(l:List Trm),(∀x∈l,EqI x∧∀y∈x.t,EqI y)→∀(v w:List Int) (nc nk:Int) (fr:Bool) (sc:Int→Bool) (d:Int) (e:Bool) (s:MSt),l.length=v.length+1→Trm.wfL nc nk fr 9 w l sc=true→(keys s++Trm.bndL l).Nodup →
  fixs lkF l v d e s=fixs lkL l v d e s∧KP s (fixs lkL l v d e s) (Trm.bndL l)
 | [],_,_,_,_,_,_,_,_,_,_,h,_,_=>by simp at h
 | [x],ih,v,w,nc,nk,fr,sc,d,e,s,_,hw,hn=>by
  rw[Trm.wfL] at hw
  simp only[Trm.bndL,List.append_nil] at hn ⊢
  rw[fixs,fixs]
  exact (ih x (by simp)).1 nc nk fr _ d e s hw hn
 | .mk o m u t::y::l,ih,[],w,nc,nk,fr,sc,d,e,s,hl,_,_=>by simp at hl
 | .mk o m u t::y::l,ih,v::vs,w,nc,nk,fr,sc,d,e,s,hl,hw,hn=>by
  rw[Trm.wfL,if_pos rfl,Bool.and_eq_true,Bool.and_eq_true,decide_eq_true_eq] at hw
  obtain ⟨⟨ho,hx⟩,hw2⟩:=hw
  obtain rfl:o=19:=ho
  have hu:=zaw (by decide) (by decide) (zaE hx).2.1
  obtain rfl:u=[]:=List.eq_nil_of_length_eq_zero hu
  have hall:=zaW (by decide) (zaE hx).2.2.2
  rw[Trm.bndL,Trm.bnd,List.nil_append] at hn
  have h1:=ze0 t (fun z hz=>(ih (.mk 19 m [] t) (by simp)).2 z hz) nc nk fr _ s hall (by rw[←List.append_assoc] at hn;exact (List.nodup_append.1 hn).1)
  obtain ⟨p,hp⟩:∃p,allT lkL t s=p:=⟨_,rfl⟩
  rw[hp] at h1
  have hn2:=h1.2.nodup hn
  have hk:KP p.2 (p.2.put ⟨8,0,lkL p.2.vars v,0,p.1⟩) []:=KP.same rfl
  have h2:=zhP (y::l) (fun z hz=>ih z (by simp[hz])) vs w nc nk fr sc d e (p.2.put ⟨8,0,lkL p.2.vars v,0,p.1⟩) (by simpa using hl) hw2 hn2
  rw[fixs,fixs,hp,h1.1]
  dsimp only[List.headD,List.head?,Option.getD,List.tail]
  rw[lk_of hn2,h2.1]
  refine ⟨rfl,?_⟩
  rw[Trm.bndL,Trm.bnd,List.nil_append]
  simpa using (h1.2.trans hk).trans h2.2
theorem zh3 (l:List Trm) (ih:∀x∈l,EqI x) (hl:l.length=3) (nc nk:Int) (fr:Bool) (sc:Int→Bool) (d:Int) (e:Bool) (s:MSt) (hw:∀x∈l,Trm.wf nc nk fr x sc=true) (hn:(keys s++Trm.bndL l).Nodup):choice lkF l d e s=choice lkL l d e s∧KP s (choice lkL l d e s) (Trm.bndL l):=by
 match l,hl with
 | [x,y,z],_=>
  simp only[Trm.bndL,List.append_nil] at hn ⊢
  have h1:=ze9 (ih x (by simp)) (hw x (by simp)) (s:=s) (by rw[←List.append_assoc] at hn;exact (List.nodup_append.1 hn).1)
  rw[choice,choice]
  obtain ⟨r,hr⟩:∃r,hadW lkL x.op x.n (into lkL x) s=r:=⟨_,rfl⟩
  rw[hr] at h1 ⊢
  rw[h1.1]
  have hn2:=h1.2.nodup hn
  unfold thens
  dsimp only
  have h2:=ih y (by simp) nc nk fr sc d e (r.2.put ⟨16,0,r.1,0,[]⟩) (hw y (by simp)) (by rw[←List.append_assoc] at hn2;exact (List.nodup_append.1 hn2).1)
  rw[h2.1]
  obtain ⟨s2,hs2⟩:∃s2,into lkL y d e (r.2.put ⟨16,0,r.1,0,[]⟩)=s2:=⟨_,rfl⟩
  rw[hs2] at h2 ⊢
  have k2:KP r.2 s2 y.bnd:=h2.2.left rfl
  obtain ⟨s4,hs4⟩:∃s4,(if e=true then s2 else s2.put ⟨15,0,0,0,[]⟩).setB r.2.code.length (if e=true then s2 else s2.put ⟨15,0,0,0,[]⟩).len=s4:=⟨_,rfl⟩
  have v4:s4.vars=s2.vars:=by rw[←hs4];cases e<;>rfl
  rw[hs4]
  have hn4:(keys s4++z.bnd).Nodup:=by
   have:=k2.nodup hn2
   rw[show keys s4=keys s2 by simp[keys,v4]]
   exact this
  have h4:=ih z (by simp) nc nk fr sc d e s4 (hw z (by simp)) hn4
  rw[h4.1]
  refine ⟨rfl,h1.2.trans (k2.trans ?_)⟩
  have k4:KP s2 (into lkL z d e s4) z.bnd:=h4.2.left v4.symm
  cases e with
  | true=>exact k4
  | false=>exact k4.right rfl
theorem eq_into:∀(k:Nat) (x:Trm),x.all≤k→EqI x
 | 0,x,h=>by have:=x.all_pos;omega
 | k+1,.mk op n v t,hk=>by
  intro nc nk fr sc d e s hw hn
  have hp:=zaE hw
  have ih:∀x∈t,EqI x:=fun x hx=>eq_into k x (by have:=Trm.all_mem (o:=op) (n:=n) (v:=v) hx;omega)
  rw[into,into]
  rw[Trm.bnd] at hn ⊢
  by_cases h8:op=8
  ·subst h8
   rw[if_neg (by decide),if_neg (by decide),if_pos rfl,if_neg (by decide),if_neg (by decide),if_pos rfl]
   have hl:t.length=v.length+1:=by simpa[Trm.countsB] using hp.2.1
   exact zhA t ih (by intro h;simp[h] at hl) v [] nc nk fr sc d e s hp.2.2.2 (by simp;omega) hn
  by_cases h9:op=9
  ·subst h9
   rw[if_neg (by decide),if_neg (by decide),if_neg (by decide),if_pos rfl,if_neg (by decide),if_neg (by decide),if_neg (by decide),if_pos rfl]
   have hl:t.length=v.length+1:=by simpa[Trm.countsB] using hp.2.1
   have h1:=ziw v t hl s
   have h2:=zhP t (fun x hx=>⟨ih x hx,fun y hy=>eq_into k y (by
    have h1:=Trm.all_mem (o:=9) (n:=n) (v:=v) hx
    obtain ⟨o',n',v',t'⟩:=x
    have h2:=Trm.all_mem (o:=o') (n:=n') (v:=v') (show y∈t' from hy)
    omega)⟩) v v nc nk fr sc d e _ hl hp.2.2.2 (h1.nodup hn)
   exact ⟨h2.1,h1.trans h2.2⟩
  have hv0:=zaw h8 h9 hp.2.1
  obtain rfl:v=[]:=List.eq_nil_of_length_eq_zero hv0
  have hall:=zaW h9 hp.2.2.2
  simp only[List.nil_append] at hn ⊢
  by_cases h3:op=3
  ·subst h3
   rw[if_pos rfl,if_pos rfl]
   exact zh3 t ih (by simpa[Trm.countsB] using hp.2.1) nc nk fr sc d e s hall hn
  rw[if_neg h3,if_neg h3]
  by_cases h6:op=6
  ·subst h6
   rw[if_pos rfl,if_pos rfl]
   exact zhm t ih nc nk fr sc d e s hall hn
  rw[if_neg h6,if_neg h8,if_neg h9,if_neg h6,if_neg h8,if_neg h9]
  have ha:=ze0 t ih nc nk fr sc s hall hn
  have hf:=ze0 t ih nc nk fr sc s.fresh hall hn
  by_cases h1:op=1
  ·subst h1
   have ht:t=[]:=by
    have:=hp.2.1
    simp[Trm.countsB] at this
    exact this
   subst ht
   rw[lk_of hn]
   cases e<;>exact ⟨rfl,KP.same rfl⟩
  rw[if_neg h1,if_neg h1,if_neg h1,if_neg h1,ha.1,hf.1]
  refine ⟨rfl,?_⟩
  cases e with
  | true=>
   rw[if_pos rfl]
   by_cases hen:endsB op n=true
   ·rw[if_pos hen]
    exact ha.2.right (zgf _ _ _ _)
   ·rw[if_neg hen]
    exact (hf.2.left rfl).right (zcH _ _ _ _ _)
  | false=>
   rw[if_neg (by simp)]
   exact ha.2.right (zcH _ _ _ _ _)
end Mk
namespace Mdl
theorem zh2 (l:List Int):Mk.keys ⟨[],l.length,l.zip ((List.range l.length).map fun (i:Nat)=>(i:Int))⟩=l:=by simp[Mk.keys,List.map_fst_zip]
theorem zgQ (c:Cod) {nc nk:Int} {fr:Bool} {sc:Int→Bool} (hw:Trm.wf nc nk fr c.body sc=true) (hn:(c.v++c.body.bnd).Nodup):Mk.proc Mk.lkF c=Mk.proc Mk.lkL c:=by
 unfold Mk.proc
 rw[(Mk.eq_into c.body.all c.body (Nat.le_refl _) nc nk fr sc 0 true _ hw (by rw[zh2];exact hn)).1]
theorem codes_each {nc nk:Int}:∀{l:List Cod} {B:Int→Bool},codesB nc nk l B=true→∀c∈l,Trm.wf nc nk true c.body (Trm.addV (fun _=>false) c.v)=true∧(c.v++c.body.bnd).Nodup∧(c.rest=true→0<c.v.length)
 | [],_,_,c,h=>by simp at h
 | x::l,B,h,c,hc=>by
  rw[codesB] at h
  simp only[Bool.and_eq_true] at h
  obtain ⟨h1,h2,h3,h4⟩:=h
  rcases List.mem_cons.1 hc with rfl | hc
  ·exact ⟨h3,((Trm.newB_iff _ _).1 h2).2,fun hr=>by simpa[hr] using h1⟩
  ·exact codes_each h4 c hc
theorem zle {m:Mdl} (h:m.okB=true):m.unit Mk.lkF=m.unit Mk.lkL:=by
 rw[okB] at h
 simp only[Bool.and_eq_true] at h
 obtain ⟨_,⟨h1,h2⟩,h3⟩:=h
 unfold unit
 rw[zgQ ⟨[],false,m.body⟩ h1 (by simpa using ((Trm.newB_iff _ _).1 h2).2),List.map_congr_left fun c hc=>zgQ c (codes_each h3 c hc).1 (codes_each h3 c hc).2.1]
end Mdl
end
end Go.Proofs.YtdcajmeeeoofgaaGreatDoor
