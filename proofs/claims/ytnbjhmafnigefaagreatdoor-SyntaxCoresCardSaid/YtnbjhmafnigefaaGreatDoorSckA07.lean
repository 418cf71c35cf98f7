/- .. -/
import Derived.Test.YtnbjhmafnigefaaGreatDoorSckA06
open Go.Proofs.Tryz
set_option maxRecDepth 100000
set_option maxHeartbeats 16000000
namespace Go.Proofs.YtnbjhmafnigefaaGreatDoor
section
open Go Go.RowKit
def SR (S:Nat->Prop) (v:Value) (b:Nat):Prop:=S b∨v.ownBlock=some b
def GrownS (W:World) (S:Nat->Prop) (base:Nat) (l:List Dat) (v:Value):Prop:=(∀b,S b->b<W.heap.size)∧(∀g,v.ownBlock=some g->¬S g)∧base<=W.heap.size∧∃xs,W.ownsRow base 26 5 v l.length xs∧CellsD (hide W (SR S v)) W.heap.size l xs
theorem GrownS.nil (W:World) {S:Nat->Prop} {base:Nat} (hS:∀b,S b->b<W.heap.size) (hb:base<=W.heap.size):GrownS W S base [] (.slice none 0 0):=⟨hS,fun _ h=>by simp[Value.ownBlock] at h,hb,[],World.ownsRow_nil _ _ _ _,rfl⟩
theorem GrownS.block {W:World} {S:Nat->Prop} {base:Nat} {l:List Dat} {v:Value} (h:GrownS W S base l v) {g:Nat} (hg:v.ownBlock=some g):base<=g∧g<W.heap.size:=by
 obtain ⟨_,_,_,xs,h1,_⟩:=h
 exact h1.lt g hg
theorem GrownS.apart {W:World} {S:Nat->Prop} {base:Nat} {l:List Dat} {v:Value} (h:GrownS W S base l v):∀g,v.ownBlock=some g->¬S g:=h.2.1
theorem GrownS.form {W:World} {S:Nat->Prop} {base:Nat} {l:List Dat} {v:Value} (h:GrownS W S base l v):∃o len cap,v=.slice o len cap∧len<=cap∧len=l.length:=by
 obtain ⟨_,_,_,xs,h1,_⟩:=h
 rcases h1.2 with ⟨hv,h0⟩ | ⟨g,cap,cur,hv,_,_,h2,_⟩
 ·exact ⟨_,_,_,hv,qzL,h0.symm⟩
 ·exact ⟨_,_,_,hv,h2,rfl⟩
theorem GrownS.turned {T:Nat->Prop} {W W':World} {S:Nat->Prop} {base:Nat} {l:List Dat} {v:Value} (h:GrownS W S base l v) (ht:Turned T W W') (hT:∀b,b<W.heap.size->T b->S b):GrownS W' S base l v:=by
 obtain ⟨h0,hap,h00,xs,h1,h2⟩:=h
 refine ⟨fun b hb=>qzM (h0 b hb) ht.size,hap,Nat.le_trans h00 ht.size,xs,?_,h2.shown (Shown.turned ht fun b hb hs=>.inl (hT b hb hs)) ht.size⟩
 refine ⟨h1.1,?_⟩
 rcases h1.2 with h' | ⟨g,cap,cur,rfl,k2,k3,k4⟩
 ·exact .inl h'
 ·refine .inr ⟨g,cap,cur,rfl,k2,?_,k4⟩
  have hlt:=(h1.lt g rfl).2
  exact (ht.block g hlt fun hs=>hap g rfl (hT g hlt hs)).trans k3
theorem GrownS.below {W W':World} {S:Nat->Prop} {base:Nat} {l:List Dat} {v:Value} (h:GrownS W S base l v) (hb:Below W.heap.size W W'):GrownS W' S base l v:=
 h.turned (T:=fun _=>False) (Turned.of_below hb) fun _ _ h=>h.elim
theorem GrownS.five {W:World} {S:Nat->Prop} {base B:Nat} {l:List Dat} {v:Value} (h:GrownS W S base l v) (hB:S B) (d0 d1 d2 d3 d4:Value):GrownS (set5 W B d0 d1 d2 d3 d4) S base l v:=
 h.turned (T:=fun b=>b=B) ⟨(zag W B B d0 d1 d2 d3 d4 qzL).os,(zag W B B d0 d1 d2 d3 d4 qzL).tape,(zag W B B d0 d1 d2 d3 d4 qzL).output,by rw[zan];exact qzL,fun b _ hn=>zam _ _ _ _ _ _ _ hn⟩ fun b _ hb=>by subst hb;exact hB
theorem GrownS.rep {W:World} {S:Nat->Prop} {base:Nat} {l:List Dat} {v:Value} (h:GrownS W S base l v):RepS (hide W S) W.heap.size l v:=by
 obtain ⟨h0,hap,h00,xs,h1,h2⟩:=h
 have:=zbS (w:=hide W S) (B:=W.heap.size) (zdF h1 hap) (h2.shown (Shown.less W fun b _ hb=>.inl hb) qzL) (by rw[za7];exact qzL)
 rwa[za7] at this
theorem zav {W:World} {S:Nat->Prop} {o:Oper} {a:Act} {K:Act->World->Prop} {Q:Exit->Act->World->Prop} (s x:Operand)
  (ho:o.op=.call { callee:=.builtin .append,args:=#[s,x],argTypes:=#[22,22] }) (base:Nat) (v xv:Value) (l k:List Dat) (hs:a.eval s=v) (hg:Hid (GrownS W S base l v)) (hx:a.eval x=xv) (hk:Hid (RepS (hide W (SR S v)) W.heap.size k xv))
  (hm:l.length+k.length<=1000000)
  (h:∀o' len' cap' w',Hid (GrownS w' S base (l++k) (.slice o' len' cap'))->Hid (Below base W w')->Hid (Turned (fun b=>v.ownBlock=some b) W w')->Hid (Shown W (SR S v) w' (SR S (.slice o' len' cap')))->K (a.put o.dst (.slice o' len' cap')) w') :
  o.wp prog a W K Q:=by
 obtain ⟨hS,hap,hb,xs,h1,h2⟩:=hg.out
 obtain ⟨ox,lenx,capx,rfl,hlx,hcx,hmx,hrx⟩:=hk.out
 obtain ⟨i0,hi,hz0,hz1,hz2⟩:=info_parts zcm
 cases k with
 | nil=>
  obtain ⟨ov,lenv,capv,rfl,hlc,hlv⟩:=GrownS.form hg.out
  have h0:lenx=0:=by simpa using hlx
  subst h0
  have hr:∀ty,(Builtin.append_ #[22,22] ty #[.slice ov lenv capv,.slice ox 0 capx]).run prog W=.ok (.slice ov lenv capv) W:=fun ty=>by
   have hle:lenv+0<=capv:=by omega
   cases ov<;>cases ox<;>simp[go_sem,Builtin.append_,hlc,Builtin.firstCells,storeCells,Builtin.lenOf]
  unfold Oper.wp execOp
  simp only[ho,resolve,invoke,builtin,Sem.run_bind,Sem.run_pure,Result.andThen_ok,List.map_toArray,List.map_cons,List.map_nil,hs,hx,hr]
  exact h _ _ _ _ (by rw[List.append_nil];exact hg) (zh qzB) (zh (Turned.refl _ _)) (zh (Shown.less W fun _ _ h=>h))
 | cons y k=>
  cases ox with
  | none=>exact absurd hrx.1 (by simp)
  | some ad=>
   obtain ⟨hsp,hblk⟩:=hrx.1 (by simp)
   obtain ⟨blk,off,sp⟩:=ad
   obtain rfl:sp=none:=hsp
   obtain ⟨ys,k1,k2⟩:=zcP _ _ hrx.2
   refine wp_append_lies W s x 22 ho base 26 i0 (.agg #[.int .i64 0,.int .i64 0,.int .i64 0,.string ⟨#[]⟩,.slice none 0 0]) 5 64 underlying22 hi hz0 hz1 hz2 rfl (by decide) v l.length xs hs h1 ⟨blk,off,none⟩ lenx capx ys hx (by rw[k1.length,hlx]) (fun j u hu=>by have:=(zaa (k2 j u hu)).2;rcases j with _ | j<;>simpa[Addr.add] using this) k1.oneCell (by rw[hlx];simp) (by rw[hlx];unfold maxLen;simp only[qzN] at hm ⊢;omega) (by rw[hlx];omega) hb W.heap.size rfl ?_
   intro g cap w' m1 m2 m3 m4
   have ht:Turned (fun b=>v.ownBlock=some b) W w':=Turned.grown m2 fun b hb=>hb
   have hbl:Below base W w':=by
    refine ⟨m2.os,m2.tape,m2.output,m2.size,fun c hc=>m2.block c (by omega) fun e=>?_⟩
    have:=(h1.lt c e.symm).1
    omega
   have sh:Shown W (SR S v) w' (SR S (.slice (some ⟨g,0,none⟩) (l.length+lenx) cap)):=by
    intro c o' u hc hu
    have hlt:=zai hu
    refine ⟨fun hs'=>?_,(Shown.turned (S:=SR S v) ht (fun b _ hb=>.inr hb) c o' u hc hu).2⟩
    rcases hs' with hs' | hs'
    ·exact hc (.inl hs')
    ·simp only[Value.ownBlock,Option.some.injEq] at hs'
     subst hs'
     rcases m3 with m3 | m3
     ·exact hc (.inr m3)
     ·omega
   refine h _ _ _ _ (zh ⟨fun b hb=>qzM (hS b hb) m2.size,fun c hc hs=>?_,Nat.le_trans hb m2.size,xs++ys,?_,?_⟩) (zh hbl) (zh ht) (zh sh)
   ·simp only[Value.ownBlock,Option.some.injEq] at hc
    subst hc
    rcases m3 with m3 | m3
    ·exact hap _ m3 hs
    ·have:=hS _ hs
     omega
   ·rw[List.length_append,<-hlx];exact m1
   ·exact zby (h2.shown sh m2.size) (k1.shown sh m2.size)
theorem sr_lt {W:World} {S:Nat->Prop} {base:Nat} {l:List Dat} {v:Value} (h:GrownS W S base l v) {n:Nat} (hn:W.heap.size<=n):∀b,SR S v b->b<n:=fun b hb=>hb.elim (fun hb=>by have:=h.1 b hb;omega) fun hb=>qzM (h.block hb).2 hn
namespace Dat
mutual
def shaped:Dat->Bool
 | mk k _ _ _ l=>(k != 6 || l.length==2)&&shapedL l
def shapedL:List Dat->Bool
 | []=>true
 | x::l=>shaped x&&shapedL l
end
end Dat
namespace Sy
open Dat
def split:Dat->List Dat × Dat
 | mk k n d s [a,b]=>if k=6 then (a::(split b).1,(split b).2) else ([],mk k n d s [a,b])
 | x=>([],x)
theorem split_pair {k n d:Int} {s:ByteArray} {a b:Dat} (hk:k=6):split (mk k n d s [a,b])=(a::(split b).1,(split b).2):=by subst hk;simp[split]
theorem split_other {k n d:Int} {s:ByteArray} {l:List Dat} (hk:k≠6):split (mk k n d s l)=([],mk k n d s l):=by
 match l with
 | []=>rfl
 | [_]=>rfl
 | [a,b]=>simp[split,hk]
 | _::_::_::_=>rfl
theorem shaped_pair {k n d:Int} {s:ByteArray} {l:List Dat} (h:shaped (mk k n d s l)=true) (hk:k=6):∃a b,l=[a,b]∧shaped a=true∧shaped b=true:=by
 subst hk
 simp only[shaped,Bool.and_eq_true] at h
 match l,h with
 | [a,b],h=>exact ⟨a,b,rfl,by simpa[shapedL] using h.2⟩
 | [],h=>simp at h
 | [_],h=>simp at h
 | _::_::_::_,h=>simp at h
theorem all_pos (x:Dat):1<=all x:=by cases x;simp[all]
end Sy
end
section
open Go Go.RowKit
namespace Rd
open Dat
theorem D_nil:D []=.bad []:=by rw[D_eq];rfl
theorem S_item' {p a:Bool} {r r2:List UInt8} (h:skip false r=r2) (h41:∀t,r2≠41::t) (hp:∀t,r2=46::t->¬(p=true∧a=true)):S p a r=oneF D (S p true) r2:=by
 cases r2 with
 | nil=>rw[S_nil h];unfold oneF;rw[D_nil]
 | cons c t=>exact zlN h (fun e=>h41 t (by rw[e])) (fun e=>hp t (by rw[e.1]) e.2)
end Rd
def DSt (s:ByteArray) (p:Bool) (t:List UInt8) (l0:List Dat) (x:Dat) (a:Nat) (m:Int) (g:Nat):Prop:=
 (∃r,m = -1∧x=Dat.null∧Rd.At s a r∧Rd.S p false t=Rd.pre l0 (Rd.S p (!l0.isEmpty) r)∧r.length+2<=g∧r.length<=t.length∧l0.length+r.length<=t.length) ∨
 (∃r t2,m = -1∧Rd.At s a r∧Rd.skip false r=41::t2∧Rd.S p false t=.ok (l0,x) t2∧1<=g∧l0.length<=t.length) ∨
 (∃q,m=((s.size-q.length:Nat):Int)∧Rd.S p false t=.bad q∧l0.length<=t.length+1)
def DInv (b:Nat) (s:ByteArray) (p:Bool) (t:List UInt8) (w:World) (g:Nat) (lv:Value) (wr:World):Prop:=Hid (∃(l0:List Dat) (x:Dat) (k n d:Int) (st:ByteArray) (o:Option Addr) (len cap a':Nat) (m:Int),RB wr b s a' m∧GrownH wr (w.heap.size+2) (w.heap.size+2) l0 lv∧Turned (fun c=>c=b) w wr∧Box5 wr w.heap.size 26 (.int .i64 0) (.int .i64 0) (.int .i64 0) (.string ⟨#[]⟩) (.slice none 0 0)∧Box5 wr (w.heap.size+1) 26 (.int .i64 k) (.int .i64 n) (.int .i64 d) (.string st) (.slice o len cap)∧RepD (hide wr (Lo (w.heap.size+2))) wr.heap.size x (.agg #[.int .i64 k,.int .i64 n,.int .i64 d,.string st,.slice o len cap])∧DSt s p t l0 x a' m g)
theorem zhQ {b:Nat} {s:ByteArray} {res:Rd.Res (List Dat × Dat)} {w W:World} {l0:List Dat} {x:Dat} {k n d:Int} {st:ByteArray} {o o3:Option Addr} {len cap len3 cap3 a':Nat} {m:Int} (hne:w.heap.size≠b) (h1:RB W b s a' m) (h2:GrownH W (w.heap.size+2) (w.heap.size+2) l0 (.slice o3 len3 cap3)) (h3:Turned (fun c=>c=b) w W)
  (h6:RepD (hide W (Lo (w.heap.size+2))) W.heap.size x (.agg #[.int .i64 k,.int .i64 n,.int .i64 d,.string st,.slice o len cap])) (hf:RFits s res (l0,x) a' m) :
  RSeq b s res w (.returned (.tuple #[.slice o3 len3 cap3,.agg #[.int .i64 k,.int .i64 n,.int .i64 d,.string st,.slice o len cap]])) (set5 W w.heap.size (.int .i64 k) (.int .i64 n) (.int .i64 d) (.string st) (.slice o len cap)):=by
 have hsh:Shown W (Lo (w.heap.size+2)) (set5 W w.heap.size (.int .i64 k) (.int .i64 n) (.int .i64 d) (.string st) (.slice o len cap)) (Lo w.heap.size):=(Shown.five W (S:=Lo (w.heap.size+2)) (show Lo (w.heap.size+2) w.heap.size from by unfold Lo;omega) _ _ _ _ _).trans (Shown.less _ fun q _ hq=>by unfold Lo at hq ⊢;omega)
 exact ⟨l0,x,o3,len3,cap3,k,n,d,st,o,len,cap,a',m,rfl,h2.rep.shown hsh (by rw[zan];exact qzL),h6.shown hsh (by rw[zan];exact qzL),(zam _ _ _ _ _ _ _ (Ne.symm hne)).trans h1,zbc h3 (zag _ _ _ _ _ _ _ _ qzL),hf⟩
theorem RSeq.drew {b:Nat} {s:ByteArray} {res:Rd.Res (List Dat × Dat)} {w:World} {e:Ending} {W:World} (h:RSeq b s res w e W):RSeq b s res w e W.drew:=by
 obtain ⟨l,x,o',len',cap',k,n,d,st,o,len,cap,a',m,h0,h1,h2,h3,h4,h5⟩:=h
 have hb:Below W.heap.size W W.drew:=Below.selfN W 1
 exact ⟨l,x,o',len',cap',k,n,d,st,o,len,cap,a',m,h0,h1.shown (Shown.below hb) hb.size,h2.shown (Shown.below hb) hb.size,BoxL.keep h3 hb,h4.next (Turned.of_below hb),h5⟩
theorem zgo {w w':World} {B B':Nat} {k n d:Int} {s:ByteArray} {v:Value} (h:RepD w B (.mk k n d s []) v):RepD w' B' (.mk k n d s []) v:=by
 obtain ⟨sl,rfl,h1,h2,h3,h4,o,len,cap,rfl,h5,h6,h7,h8⟩:=h.open
 refine RepD.shut h1 h2 h3 h4 ⟨o,len,cap,rfl,h5,h6,h7,?_⟩
 cases o with
 | none=>exact h8
 | some a=>exact ⟨fun h=>absurd rfl h,by rw[RepC];trivial⟩
theorem zcQ:∀(r:List UInt8) (m:Bool) (c:UInt8) (t:List UInt8),Rd.skip m r=c::t->Rd.skip false (c::t)=c::t
 | [],m,_,_,h=>by cases m<;>cases h
 | b::r,true,c,t,h=>by
  simp only[Rd.skip] at h
  split at h
  ·exact zcQ r false c t h
  ·exact zcQ r true c t h
 | b::r,false,c,t,h=>by
  simp only[Rd.skip] at h
  split at h
  ·exact zcQ r true c t h
  split at h
  ·exact zcQ r false c t h
  ·rename_i h1 h2
   cases h
   simp only[Rd.skip]
   rw[if_neg h1,if_neg h2]
theorem zjG {s:ByteArray} {p:Bool} {t:List UInt8} {l0:List Dat} {x:Dat} {a:Nat} {m:Int} {g:Nat} (h:DSt s p t l0 x a m g) :
  (∃r t2,m = -1∧Rd.At s a r∧Rd.skip false r=41::t2∧Rd.S p false t=.ok (l0,x) t2) ∨
  (∃r r2,m = -1∧x=Dat.null∧Rd.At s a r∧Rd.skip false r=r2∧(∀t',r2≠41::t')∧Rd.S p false t=Rd.pre l0 (Rd.S p (!l0.isEmpty) r)∧r2.length+2<=g∧r2.length<=t.length∧l0.length+r2.length<=t.length) ∨
  (∃q,m=((s.size-q.length:Nat):Int)∧Rd.S p false t=.bad q∧l0.length<=t.length+1):=by
 rcases h with ⟨r,h1,h2,h3,h4,h5,h6,h7⟩ | ⟨r,t2,h1,h2,h3,h4,h5,h6⟩ | h
 ·have hl:=Rd.skip_le r false
  by_cases hc:∃t2,Rd.skip false r=41::t2
  ·obtain ⟨t2,ht⟩:=hc
   refine .inl ⟨r,t2,h1,h3,ht,?_⟩
   rw[h4,Rd.S_close ht,h2]
   simp[Rd.pre,Rd.Res.map]
  ·exact .inr (.inl ⟨r,_,h1,h2,h3,rfl,fun t' e=>hc ⟨t',e⟩,h4,by omega,by omega,by omega⟩)
 ·exact .inl ⟨r,t2,h1,h2,h3,h4⟩
 ·exact .inr (.inr h)
theorem zk3 {s:ByteArray} {p:Bool} {t:List UInt8} {l0:List Dat} {y:Dat} {a:Nat} {m:Int} {r2:List UInt8} {k:Nat} (hat:Rd.At s k r2) (hS:Rd.S p false t=Rd.pre l0 (Rd.oneF Rd.D (Rd.S p true) r2)) (hf:RFits s (Rd.D r2) y a m) (_h1:r2.length<=t.length) (h2:l0.length+r2.length<=t.length) :
  DSt s p t (l0++[y]) Dat.null a m (r2.length+1):=by
 have hg:=Rd.D_good r2
 cases hD:Rd.D r2 with
 | ok z q=>
  rw[hD] at hf hg
  obtain ⟨rfl,rfl,rfl⟩:=hf
  have hq:=hg.2
  refine .inl ⟨q,rfl,rfl,hat.suf hg.1,?_,by omega,by omega,by rw[List.length_append,List.length_singleton];omega⟩
  rw[hS,Rd.pre_ok hD,show (!(l0++[y]).isEmpty)=true from by cases l0<;>rfl]
 | bad q=>
  rw[hD] at hf
  exact .inr (.inr ⟨q,hf,by rw[hS,Rd.pre_bad hD],by rw[List.length_append,List.length_singleton];omega⟩)
theorem zjo (n:Nat) (H:RDatOk n) (b:Nat) (s:ByteArray) (a:Nat) (t:List UInt8) (w:World) (p:Bool) (dp:Int) (hn:t.length<n) (hp:RB w b s a (-1)) (hat:Rd.At s a t) (hs:s.size<=65536) :
  Calls prog 69 #[.pointer (some ⟨b,0,none⟩),.bool p,.int .i64 dp] w (RSeq b s (Rd.S p false t) w):=by
 have htl:t.length<=65536:=by have:=hat.1;omega
 have hb:=hp.lt
 have hne:w.heap.size≠b:=by omega
 have hnb1:w.heap.size+1≠b:=by omega
 obtain ⟨W2,hW2⟩:∃W2,(w.alloc (.cells #[.int .i64 0,.int .i64 0,.int .i64 0,.string ⟨#[]⟩,.slice none 0 0] 26)).alloc (.cells #[.int .i64 4,.int .i64 0,.int .i64 0,.string ⟨#[]⟩,.slice none 0 0] 26)=W2:=⟨_,rfl⟩
 have HI:=zh (show DInv b s p t w (t.length+2) (.slice none 0 0) W2 from zh ⟨[],Dat.null,4,0,0,⟨#[]⟩,none,0,0,a, -1,by rw[<-hW2];exact BoxL.alloc (BoxL.alloc hp _) _,GrownH.nil _ qzL,
  by rw[<-hW2];exact Turned.of_below ((Below.one w _).trans ((Below.one _ _).mono (by simp))),by rw[<-hW2];exact (Box5.new w _ _ _ _ _ _).alloc _,by rw[<-hW2];have:=Box5.new (w.alloc (.cells #[.int .i64 0,.int .i64 0,.int .i64 0,.string ⟨#[]⟩,.slice none 0 0] 26)) 26 (.int .i64 4) (.int .i64 0) (.int .i64 0) (.string ⟨#[]⟩) (.slice none 0 0);rwa[World.size_alloc] at this,
  RepD.shut (by omega) (by omega) (by omega) (by decide) ⟨none,0,0,rfl,rfl,by omega,by omega,rfl,rfl⟩,.inl ⟨t,rfl,rfl,hat,by rw[Rd.pre_nil];rfl,qzL,qzL,by simp⟩⟩)
 have HW2:=zh hW2
 clear hp hat hW2
 go_enter func69,ntmps69
 go_wp2_with fail
 rw[HW2.out]
 clear HW2
 go_loopg [8] (t.length+2) (fun g lv wr=>DInv b s p t w g lv wr)
 case atStart=>exact HI.out
 case round=>
  obtain ⟨l0,x,k,n9,d,st,o,len,cap,a1,m,hrb,hg,hT,hbx,hbe,hrx,hst⟩:=hrel.out
  clear hrel HI
  obtain ⟨o3,len3,cap3,hv3,hl3⟩:=hg.form
  subst hv3
  have HLN:=zh hl3
  have HTW:=zh hT
  have HG:=zh hg
  have HBX:=zh hbx
  have HBE:=zh hbe
  have HRX:=zh hrx
  have HRB:=zh hrb
  have hk1:=hbe.lt
  have hzl:=hrb.lt
  have low:∀(N q:Nat),q<N->q=b->Lo (w.heap.size+2) q:=fun N q _ hq=>by unfold Lo;omega
  have LOW:=zh low
  have hbk:b<w.heap.size+2:=by omega
  have hmb:=hrb.cell 2 rfl
  clear hl3 low hg hT hrx
  rcases zjG hst with ⟨r1,t2,rfl,hat1,hsk,hS⟩ | ⟨r1,r2,rfl,rfl,hat1,hsk,h41,hS,hle,hlt1,jk⟩ | ⟨q,rfl,hS,jk⟩
  ·have hC:=zb3 b s a1 (-1) r1 wr hrb hat1 hs
   rw[hsk] at hC
   have HS:=zh hS
   have hq:=hat1.suf (Rd.skip_suf r1 false)
   rw[hsk] at hq
   have HPT:=zh (show ((s.size-(41::t2).length:Nat):Int)+1=((s.size-t2.length:Nat):Int) from by have:=hq.1;simp only[qzN] at this ⊢;omega)
   obtain ⟨kp,hkp⟩:∃kp,s.size-(41::t2).length=kp:=⟨_,rfl⟩
   rw[hkp] at HPT hC
   have hkb:kp<=s.size:=by omega
   have HC:=zh hC
   clear hC hS hat1 hsk hq hkp hrb hbx hbe hst
   go_upto_region 5 with (first | (go_at_call 34;refine HC.out.mono ?_;rintro e' w1 ⟨rfl,hr1,ht1⟩;have d1:=hr1.cell 1 rfl;have d2:=hr1.free 1;have d3:=hr1.lt;have HR1:=zh hr1;have HT1:=zh ht1;clear hr1 ht1))
   go_upto_region 7 with fail
   rw[HPT.out]
   have hr2:RB (w1.setCell ⟨b,1,none⟩ (.int .i64 ((s.size-t2.length:Nat):Int))) b s (s.size-t2.length) (-1):=RB.at HR1.out _
   have ht2:Turned (fun c=>c=b) wr (w1.setCell ⟨b,1,none⟩ (.int .i64 ((s.size-t2.length:Nat):Int))):=HT1.out.next (Turned.set _ _ _ rfl)
   generalize w1.setCell ⟨b,1,none⟩ (.int .i64 ((s.size-t2.length:Nat):Int))=W5 at hr2 ht2 ⊢
   have HR5:=zh hr2
   have HT5:=zh ht2
   have HG5:=zh (HG.out.turned ht2 (LOW.out _))
   have HY5:=zh (zfm HRX.out ht2 hbk)
   have hbx:Box5 W5 w.heap.size 26 (.int .i64 0) (.int .i64 0) (.int .i64 0) (.string ⟨#[]⟩) (.slice none 0 0):=(ht2.block _ HBX.out.lt hne).trans HBX.out
   have hbe:Box5 W5 (w.heap.size+1) 26 (.int .i64 k) (.int .i64 n9) (.int .i64 d) (.string st) (.slice o len cap):=(ht2.block _ hk1 hnb1).trans HBE.out
   have HX5:=zh hbx
   obtain ⟨q0',q1,q2,q3,q4⟩:=hbe.cells
   obtain ⟨v0,v1,v2,v3,v4⟩:=hbx.cells
   obtain ⟨y0,y1,y2,y3,y4⟩:=hbx.free
   have gl3:=hbx.lt
   have gl4:=hbe.lt
   clear hr2 ht2 hbx hbe d1 d2 d3 hmb
   go_region
   all_goals go_wp2_with fail
   all_goals
    have HR6:=zh (HX5.out.set (.int .i64 k) (.int .i64 n9) (.int .i64 d) (.string st) (.slice o len cap))
    obtain ⟨r0,r1,r2,r3,r4⟩:=HR6.out.cells
    refine bodyPost_ret (v:=.tuple #[.slice o3 len3 cap3,.agg #[.int .i64 k,.int .i64 n9,.int .i64 d,.string st,.slice o len cap]]) (by simp[results,results69,go_sem,r0,r1,r2,r3,r4]) rfl ?_
    rw[HS.out]
    exact (zhQ hne HR5.out HG5.out (HTW.out.next HT5.out) HY5.out (show RFits s (Rd.Res.ok (l0,x) t2) (l0,x) _ _ from ⟨rfl,rfl,rfl⟩)).drew
  ·have hC:=zb3 b s a1 (-1) r1 wr hrb hat1 hs
   have hqa:=hat1.suf (Rd.skip_suf r1 false)
   rw[hsk] at hC hqa
   obtain ⟨kp,hkp⟩:∃kp,s.size-r2.length=kp:=⟨_,rfl⟩
   rw[hkp] at hC hqa
   have hkb:kp<=s.size:=by omega
   have HQA:=zh hqa
   have HKP:=zh hkp
   obtain ⟨hd,hhd⟩:∃hd,r2.headD 0=hd:=⟨_,rfl⟩
   rw[hhd] at hC
   have HC:=zh hC
   have q41:((hd.toNat:Int)==41)=false:=by
    rw[show ((hd.toNat:Int)==41)=decide (hd=41) from u8_eq hd 41]
    refine decide_eq_false fun e=>?_
    cases r2 with
    | nil=>rw[<-hhd] at e;exact absurd e (by decide)
    | cons c t'=>rw[<-hhd] at e;exact h41 t' (by rw[show c=41 from e])
   have q46:((hd.toNat:Int)==46)=decide (hd=46):=u8_eq hd 46
   clear hC hat1 hrb hbx hbe hst hqa hkp
   by_cases hpt:∃t1,r2=46::t1∧p=true∧l0.isEmpty=false
   ·obtain ⟨t1,rfl,rfl,hl0⟩:=hpt
    have q46':((hd.toNat:Int)==46)=true:=by rw[q46];exact decide_eq_true (by rw[<-hhd];rfl)
    have hln:0<l0.length:=by cases l0 with
     | nil=>cases hl0
     | cons y l=>simp
    have hl1:decide (0<(len3:Int))=true:=by have:=HLN.out;simp;omega
    have hl2:decide (0<len3)=true:=by have:=HLN.out;simp;omega
    have HS2:=zh (show Rd.S true false t=Rd.pre l0 (Rd.pointF Rd.D t1) from by rw[hS,hl0,show (!false)=true from rfl,Rd.S_point hsk])
    simp only[qzN] at hlt1 jk hle
    have hq1:Rd.At s (kp+1) t1:=HQA.out.cons
    have HQ1:=zh hq1
    have HCL:=zh (fun (W:World) (dp':Int) (hW:RB W b s (kp+1) (-1))=>H b s (kp+1) t1 W dp' (by omega) hW hq1 hs)
    have HADD:=zh (show ((kp:Int)+1)=((kp+1:Nat):Int) from by omega)
    have hgood:=Rd.D_good t1
    have HGD:=zh hgood
    have hkb2:kp+1<=s.size:=by have:=hq1.1;omega
    clear hS hsk h41 q46 hhd hgood hq1 hln hl0
    go_upto_region 5 with (first | (go_at_call 34;refine HC.out.mono ?_;rintro e' w1 ⟨rfl,hr1,ht1⟩;have d1:=hr1.cell 1 rfl;have d2:=hr1.free 1;have d3:=hr1.lt;have HR1:=zh hr1;have HT1:=zh ht1;clear hr1 ht1))
    go_upto_region 10 with fail
    rw[HADD.out]
    have hr3:RB (w1.setCell ⟨b,1,none⟩ (.int .i64 ((kp+1:Nat):Int))) b s (kp+1) (-1):=RB.at HR1.out _
    have ht3:Turned (fun c=>c=b) wr (w1.setCell ⟨b,1,none⟩ (.int .i64 ((kp+1:Nat):Int))):=HT1.out.next (Turned.set _ _ _ rfl)
    generalize w1.setCell ⟨b,1,none⟩ (.int .i64 ((kp+1:Nat):Int))=W3 at hr3 ht3 ⊢
    have HR3:=zh hr3
    have HT3:=zh (HTW.out.next ht3)
    have HG3:=zh (HG.out.turned ht3 (LOW.out _))
    have HX3:=zh (show Box5 W3 w.heap.size 26 (.int .i64 0) (.int .i64 0) (.int .i64 0) (.string ⟨#[]⟩) (.slice none 0 0) from (ht3.block _ HBX.out.lt hne).trans HBX.out)
    have HE3:=zh (show Box5 W3 (w.heap.size+1) 26 (.int .i64 k) (.int .i64 n9) (.int .i64 d) (.string st) (.slice o len cap) from (ht3.block _ hk1 hnb1).trans HBE.out)
    clear hr3 ht3 d1 d2 d3 HG HTW HBX HBE HR1 HT1 hmb
    go_upto_region 11 with (first | (go_at_call 35;refine (HCL.out _ _ HR3.out).mono ?_;rintro e' w2 ⟨y,k9,n8,d9,s9,o9,len9,cap9,a9,m9,rfl,ji,hrb,ht2,hf⟩;have he2:Box5 w2 (w.heap.size+1) 26 (.int .i64 k) (.int .i64 n9) (.int .i64 d) (.string st) (.slice o len cap):=(ht2.block _ HE3.out.lt hnb1).trans HE3.out;obtain ⟨p0,p1,p2,p3,p4⟩:=he2.cells;obtain ⟨z0,z1,z2,z3,z4⟩:=he2.free;have pl:=he2.lt;have HE2:=zh he2;have HREP:=zh ji;have HRB2:=zh hrb;have HT2:=zh ht2;have HF2:=zh hf;clear ji hrb ht2 hf he2))
    have hpb4:RB (set5 w2 (w.heap.size+1) (.int .i64 k9) (.int .i64 n8) (.int .i64 d9) (.string s9) (.slice o9 len9 cap9)) b s a9 m9:=HRB2.out.five' (Ne.symm hnb1) _ _ _ _ _
    have hg4:=(HG3.out.turned HT2.out (LOW.out _)).five (B:=w.heap.size+1) (Nat.lt_succ_self _) (.int .i64 k9) (.int .i64 n8) (.int .i64 d9) (.string s9) (.slice o9 len9 cap9)
    have ht4:Turned (fun c=>c=b) w (set5 w2 (w.heap.size+1) (.int .i64 k9) (.int .i64 n8) (.int .i64 d9) (.string s9) (.slice o9 len9 cap9)):=zbc (HT3.out.next HT2.out) (zag _ _ _ _ _ _ _ _ (Nat.le_succ _))
    have hx4:Box5 (set5 w2 (w.heap.size+1) (.int .i64 k9) (.int .i64 n8) (.int .i64 d9) (.string s9) (.slice o9 len9 cap9)) w.heap.size 26 (.int .i64 0) (.int .i64 0) (.int .i64 0) (.string ⟨#[]⟩) (.slice none 0 0):=(zam _ _ _ _ _ _ _ (by omega)).trans ((HT2.out.block _ HX3.out.lt hne).trans HX3.out)
    have he4:Box5 (set5 w2 (w.heap.size+1) (.int .i64 k9) (.int .i64 n8) (.int .i64 d9) (.string s9) (.slice o9 len9 cap9)) (w.heap.size+1) 26 (.int .i64 k9) (.int .i64 n8) (.int .i64 d9) (.string s9) (.slice o9 len9 cap9):=HE2.out.set (.int .i64 k9) (.int .i64 n8) (.int .i64 d9) (.string s9) (.slice o9 len9 cap9)
    have hy4:RepD (hide (set5 w2 (w.heap.size+1) (.int .i64 k9) (.int .i64 n8) (.int .i64 d9) (.string s9) (.slice o9 len9 cap9)) (Lo (w.heap.size+2))) (set5 w2 (w.heap.size+1) (.int .i64 k9) (.int .i64 n8) (.int .i64 d9) (.string s9) (.slice o9 len9 cap9)).heap.size y (.agg #[.int .i64 k9,.int .i64 n8,.int .i64 d9,.string s9,.slice o9 len9 cap9]):=HREP.out.shown ((Shown.less w2 (S:=Lo W3.heap.size) (S':=Lo (w.heap.size+2)) fun q _ hq=>by unfold Lo at hq ⊢;have:=HE3.out.lt;omega).trans (Shown.five w2 (S:=Lo (w.heap.size+2)) (show Lo (w.heap.size+2) (w.heap.size+1) from Nat.lt_succ_self _) _ _ _ _ _)) (by rw[zan];exact qzL)
    show Code.wp _ _ _ _ (set5 w2 (w.heap.size+1) (.int .i64 k9) (.int .i64 n8) (.int .i64 d9) (.string s9) (.slice o9 len9 cap9))
    generalize set5 w2 (w.heap.size+1) (.int .i64 k9) (.int .i64 n8) (.int .i64 d9) (.string s9) (.slice o9 len9 cap9)=W4 at hpb4 hg4 ht4 hx4 he4 hy4 ⊢
    have u2:=hpb4.cell 2 rfl
    have ul:=hpb4.lt
    have HP4:=zh hpb4
    have HG4:=zh hg4
    have HT4:=zh ht4
    have HX4:=zh hx4
    have HE4:=zh he4
    have HY4:=zh hy4
    clear hpb4 hg4 ht4 hx4 he4 hy4 p0 p1 p2 p3 p4 z0 z1 z2 z3 z4 pl HREP HRB2 HT2 HE2
    cases hD:Rd.D t1 with
    | bad q=>
     have hm9:=HF2.out
     rw[hD] at hm9
     obtain rfl:m9=((s.size-q.length:Nat):Int):=hm9
     have hlt9:decide ((((s.size-q.length:Nat):Int))<0)=false:=by simp
     have HF:=zh (show Rd.S true false t=.bad q from by rw[HS2.out];unfold Rd.pointF;rw[hD];rfl)
     clear hD
     go_wp2_with fail
     go_roundg 0
     case measure=>omega
     case rel=>exact zh ⟨l0,y,k9,n8,d9,s9,o9,len9,cap9,a9,_,HP4.out,HG4.out,HT4.out,HX4.out,HE4.out,HY4.out,.inr (.inr ⟨q,rfl,HF.out,by omega⟩)⟩
    | ok z q=>
     have hm9:=HF2.out
     rw[hD] at hm9
     obtain ⟨rfl,rfl,rfl⟩:=hm9
     have hqs:=HGD.out
     rw[hD] at hqs
     have hqa:Rd.At s (s.size-q.length) q:=HQ1.out.suf hqs.1
     have hC:=zb3 b s _ (-1) q W4 HP4.out hqa hs
     have hq3:=hqa.suf (Rd.skip_suf q false)
     have HSP:=zh (show Rd.S true false t=Rd.pre l0 (Rd.shutF y q) from by rw[HS2.out];unfold Rd.pointF;rw[hD])
     have hlq:q.length<t1.length:=hqs.2
     clear hD hqs
     by_cases h41:∃t2,Rd.skip false q=41::t2
     ·obtain ⟨t2,ht2⟩:=h41
      rw[ht2] at hC hq3
      have HC2:=zh hC
      have HF:=zh (show Rd.S true false t=.ok (l0,y) t2 from by rw[HSP.out];unfold Rd.shutF;rw[ht2];simp[Rd.pre,Rd.Res.map])
      have HQ3:=zh hq3
      have HSK:=zh (zcQ _ _ _ _ ht2)
      clear hC hqa hq3 ht2
      go_wp2_with (first | (go_at_call 34;refine HC2.out.mono ?_;rintro e' w5 ⟨rfl,hr5,ht5⟩;have HR5:=zh hr5;have HT5:=zh ht5;clear hr5 ht5))
      go_roundg 1
      case measure=>omega
      case rel=>exact zh ⟨l0,y,k9,n8,d9,s9,o9,len9,cap9,_,_,HR5.out,HG4.out.turned HT5.out (LOW.out _),HT4.out.next HT5.out,(HT5.out.block _ HX4.out.lt hne).trans HX4.out,(HT5.out.block _ HE4.out.lt hnb1).trans HE4.out,zfm HY4.out HT5.out hbk,.inr (.inl ⟨41::t2,t2,rfl,HQ3.out,HSK.out,HF.out,qzL,by omega⟩)⟩
     ·obtain ⟨r3,hr3⟩:∃r3,Rd.skip false q=r3:=⟨_,rfl⟩
      rw[hr3] at hC hq3 h41
      obtain ⟨hd3,hhd3⟩:∃hd,r3.headD 0=hd:=⟨_,rfl⟩
      rw[hhd3] at hC
      have q413:((hd3.toNat:Int) != 41)=true:=by
       rw[bne,show ((hd3.toNat:Int)==41)=decide (hd3=41) from u8_eq hd3 41]
       rw[decide_eq_false]
       ·rfl
       ·intro e
        cases r3 with
        | nil=>rw[<-hhd3] at e;exact absurd e (by decide)
        | cons c t'=>rw[<-hhd3] at e;exact h41 ⟨t',by rw[show c=41 from e]⟩
      have HF:=zh (show Rd.S true false t=.bad r3 from by
       rw[HSP.out];unfold Rd.shutF;rw[hr3]
       cases r3 with
       | nil=>rfl
       | cons c t'=>simp only;rw[if_neg (fun e=>h41 ⟨t',by rw[e]⟩)];rfl)
      obtain ⟨k3,hk3⟩:∃k3,s.size-r3.length=k3:=⟨_,rfl⟩
      rw[hk3] at hC
      have HK3:=zh hk3
      have HC2:=zh hC
      have HFL:=zh (fun (W:World) (hW:RB W b s k3 (-1))=>zb7 b s k3 (-1) (k3:Int) W hW)
      clear hC hqa hq3 hr3 h41 hhd3 hk3
      go_wp2_with (first | (go_at_call 34;refine HC2.out.mono ?_;rintro e' w5 ⟨rfl,hr5,ht5⟩;have x1:=hr5.cell 1 rfl;have xl:=hr5.lt;have HR5:=zh hr5;have HT5:=zh ht5;clear hr5 ht5) | (go_at_call 36;refine (HFL.out _ HR5.out).mono ?_;rintro e' w6 ⟨rfl,hr6,ht6⟩;have HR6:=zh hr6;have HT6:=zh (HT5.out.next ht6);clear hr6 ht6))
      go_roundg 0
      case measure=>omega
      case rel=>exact zh ⟨l0,y,k9,n8,d9,s9,o9,len9,cap9,_,_,by have:=HR6.out;rw[if_pos (by decide)] at this;exact this,HG4.out.turned HT6.out (LOW.out _),HT4.out.next HT6.out,(HT6.out.block _ HX4.out.lt hne).trans HX4.out,(HT6.out.block _ HE4.out.lt hnb1).trans HE4.out,zfm HY4.out HT6.out hbk,.inr (.inr ⟨r3,by rw[HK3.out],HF.out,by omega⟩)⟩
   ·have hvar:(((hd.toNat:Int)==46)=false)∨(((hd.toNat:Int)==46)=true∧p=false)∨(((hd.toNat:Int)==46)=true∧p=true∧decide (0<(len3:Int))=false∧decide (0<len3)=false):=by
     by_cases h46:hd=46
     ·right
      rw[q46,decide_eq_true h46]
      cases p with
      | false=>exact .inl ⟨rfl,rfl⟩
      | true=>
       refine .inr ⟨rfl,rfl,?_⟩
       cases r2 with
       | nil=>rw[<-hhd] at h46;exact absurd h46 (by decide)
       | cons c t1=>
        have hc:c=46:=by rw[<-hhd] at h46;exact h46
        cases l0 with
        | nil=>have:=HLN.out;simp only[qzO] at this;constructor<;>simp[this]
        | cons y l=>exact (hpt ⟨t1,by rw[hc],rfl,rfl⟩).elim
     ·left;rw[q46,decide_eq_false h46]
    have hS2:Rd.S p false t=Rd.pre l0 (Rd.oneF Rd.D (Rd.S p true) r2):=by
     rw[hS,Rd.S_item' hsk h41 (fun t' ht hh=>hpt ⟨t',ht,hh.1,by have:=hh.2;cases hz:l0.isEmpty with
      | false=>rfl
      | true=>rw[hz] at this;cases this⟩)]
    have HS2:=zh hS2
    have HCL:=zh (fun (W:World) (dp':Int) (hW:RB W b s kp (-1))=>H b s kp r2 W dp' (by omega) hW HQA.out hs)
    have hl0:l0.length<=1000000:=by omega
    clear hS2 hS hsk h41 hpt q46 hhd
    rcases hvar with hv1 | ⟨hv1,rfl⟩ | ⟨hv1,rfl,hv2,hv3⟩
    all_goals
     go_upto_region 5 with (first | (go_at_call 34;refine HC.out.mono ?_;rintro e' w1 ⟨rfl,hr1,ht1⟩;have d1:=hr1.cell 1 rfl;have d2:=hr1.free 1;have d3:=hr1.lt;have HR1:=zh hr1;have HT1:=zh ht1;clear hr1 ht1))
     go_upto_region 13 with fail
     go_wp2_with (first | (go_at_call 35;refine (HCL.out _ _ HR1.out).mono ?_;rintro e' w2 ⟨y,k9,n8,d9,s9,o9,len9,cap9,a9,m9,rfl,ji,hrb,ht2,hf⟩;have HREP:=zh ji;have HRB2:=zh hrb;have HT2:=zh ht2;have HF2:=zh hf;clear ji hrb ht2 hf) | (at_builtin;refine zbU rfl (.tmp 67) (.tmp 72) rfl (w.heap.size+2) (w.heap.size+2) w1.heap.size _ l0 y _ _ _ _ _ rfl ((HG.out.turned HT1.out (LOW.out _)).turned HT2.out (LOW.out _)) HREP.out (Nat.le_trans hk1 HT1.out.size) (fun g hg=>((HG.out.turned HT1.out (LOW.out _)).block hg).2) hl0 (Nat.le_trans hk1 (Nat.le_trans HT1.out.size HT2.out.size)) rfl ?_))
     intro g cap7 w3 hg3 ht3
     have hrow:∀q,(Value.slice o3 len3 cap3).ownBlock=some q->w.heap.size+1<q:=fun q hq=>(HG.out.block hq).1
     have HT6:=zh (((HTW.out.next HT1.out).next HT2.out).trans ht3 (fun q hq hs=>by have:=hrow q hs;omega))
     have HPB:=zh (show RB w3 b s a9 m9 from ht3.box HRB2.out (fun hq=>by have:=hrow b hq;omega))
     have HB9:=zh (show Box5 w3 w.heap.size 26 (.int .i64 0) (.int .i64 0) (.int .i64 0) (.string ⟨#[]⟩) (.slice none 0 0) from (ht3.block _ (qzM HBX.out.lt (Nat.le_trans HT1.out.size HT2.out.size)) (fun hq=>by have:=hrow _ hq;omega)).trans ((HT2.out.block _ (qzM HBX.out.lt HT1.out.size) hne).trans ((HT1.out.block _ HBX.out.lt hne).trans HBX.out)))
     have HE9:=zh (show Box5 w3 (w.heap.size+1) 26 (.int .i64 k) (.int .i64 n9) (.int .i64 d) (.string st) (.slice o len cap) from (ht3.block _ (qzM hk1 (Nat.le_trans HT1.out.size HT2.out.size)) (fun hq=>by have:=hrow _ hq;omega)).trans ((HT2.out.block _ (qzM hk1 HT1.out.size) hnb1).trans ((HT1.out.block _ hk1 hnb1).trans HBE.out)))
     have HRX9:=zh (show RepD (hide w3 (Lo (w.heap.size+2))) w3.heap.size Dat.null (.agg #[.int .i64 k,.int .i64 n9,.int .i64 d,.string st,.slice o len cap]) from zgo HRX.out)
     have HG3:=zh hg3
     clear hg3 ht3 hrow d1 d2 d3
     go_wp2_with fail
     go_roundg (r2.length+1)
     case measure=>omega
     case rel=>exact zh ⟨l0++[y],Dat.null,k,n9,d,st,o,len,cap,a9,m9,HPB.out,HG3.out,HT6.out,HB9.out,HE9.out,HRX9.out,zk3 HQA.out HS2.out HF2.out hlt1 jk⟩
  ·have hd0:decide ((((s.size-q.length:Nat):Int))<0)=false:=by simp
   have HS:=zh hS
   obtain ⟨q0',q1,q2,q3,q4⟩:=hbe.cells
   obtain ⟨v0,v1,v2,v3,v4⟩:=hbx.cells
   obtain ⟨y0,y1,y2,y3,y4⟩:=hbx.free
   have gl3:=hbx.lt
   clear hS hrb hbx hbe hst
   go_wp2_with fail
   go_region
   all_goals go_wp2_with fail
   all_goals
    have HR6:=zh (HBX.out.set (.int .i64 k) (.int .i64 n9) (.int .i64 d) (.string st) (.slice o len cap))
    obtain ⟨r0,r1,r2,r3,r4⟩:=HR6.out.cells
    refine bodyPost_ret (v:=.tuple #[.slice o3 len3 cap3,.agg #[.int .i64 k,.int .i64 n9,.int .i64 d,.string st,.slice o len cap]]) (by simp[results,results69,go_sem,r0,r1,r2,r3,r4]) rfl ?_
    rw[HS.out]
    exact (zhQ hne HRB.out HG.out HTW.out HRX.out (show RFits s (Rd.Res.bad q) (l0,x) a1 _ from rfl)).drew
end
section
open Go Go.RowKit
def S2 (S:Nat->Prop) (H:Nat):Nat->Prop:=S1 (S1 S H) (H+1)
theorem s2_lt {S:Nat->Prop} {H:Nat} (hS:∀b,S b->b<H):∀b,S2 S H b->b<H+2:=fun b h=>by
 rcases h with (h | h) | h
 ·have:=hS b h;omega
 ·omega
 ·omega
theorem GrownS.less {W:World} {S S':Nat->Prop} {base base':Nat} {l:List Dat} {v:Value} (h:GrownS W S' base' l v) (hs:∀b,S b->S' b) (hb:base<=base'):GrownS W S base l v:=by
 obtain ⟨h0,hap,h00,xs,h1,h2⟩:=h
 refine ⟨fun b h=>h0 b (hs b h),fun g hg h=>hap g hg (hs g h),Nat.le_trans hb h00,xs,⟨h1.1,?_⟩,h2.shown (Shown.less W fun b _ h=>h.elim (fun h=>.inl (hs b h)) .inr) qzL⟩
 rcases h1.2 with h' | ⟨g,cap,cur,k1,k2,k3⟩
 ·exact .inl h'
 ·exact .inr ⟨g,cap,cur,k1,Nat.le_trans hb k2,k3⟩
def ziY (S:Nat->Prop) (p:List Dat × Dat) (w:World) (e:Ending) (w':World):Prop:=
 ∃(o':Option Addr) (len' cap':Nat) (k n d:Int) (st:ByteArray) (o:Option Addr) (len cap:Nat),e=.returned (.tuple #[.slice o' len' cap',.agg #[.int .i64 k,.int .i64 n,.int .i64 d,.string st,.slice o len cap]])∧GrownS w' S w.heap.size p.1 (.slice o' len' cap')∧RepD (hide w' (SR S (.slice o' len' cap'))) w'.heap.size p.2 (.agg #[.int .i64 k,.int .i64 n,.int .i64 d,.string st,.slice o len cap])∧Below w.heap.size w w'
def SpI (S:Nat->Prop) (x:Dat) (w:World) (g:Nat) (lv:Value) (wr:World):Prop:=Hid (∃(k n d:Int) (st:ByteArray) (l':List Dat) (o:Option Addr) (len cap:Nat) (done:List Dat),Box5 wr w.heap.size 26 (.int .i64 k) (.int .i64 n) (.int .i64 d) (.string st) (.slice o len cap)∧RepD (hide wr (SR (S2 S w.heap.size) lv)) wr.heap.size (.mk k n d st l') (.agg #[.int .i64 k,.int .i64 n,.int .i64 d,.string st,.slice o len cap])∧Box5 wr (w.heap.size+1) 26 (.int .i64 0) (.int .i64 0) (.int .i64 0) (.string ⟨#[]⟩) (.slice none 0 0) ∧
 GrownS wr (S2 S w.heap.size) (w.heap.size+2) done lv∧Below w.heap.size w wr∧Dat.shaped (.mk k n d st l')=true∧Dat.all (.mk k n d st l')<=g∧done.length+Dat.all (.mk k n d st l')<=Dat.all x∧Sy.split x=(done++(Sy.split (.mk k n d st l')).1,(Sy.split (.mk k n d st l')).2))
theorem zc8 (S:Nat->Prop) (x:Dat) (v:Value) (B:Nat) (w:World) (hS:∀b,S b->b<w.heap.size) (hv:RepD (hide w S) B x v) (hB:B<=w.heap.size) (hsh:Dat.shaped x=true) (hal:Dat.all x<=100000) :
  Calls prog 99 #[v] w (ziY S (Sy.split x) w):=by
 obtain ⟨k,n,d,st,o,len,cap,rfl⟩:=zae hv.unhide
 obtain ⟨W0,hW0⟩:∃W0,(w.alloc (.cells #[.int .i64 k,.int .i64 n,.int .i64 d,.string st,.slice o len cap] 26)).alloc (.cells #[.int .i64 0,.int .i64 0,.int .i64 0,.string ⟨#[]⟩,.slice none 0 0] 26)=W0:=⟨_,rfl⟩
 have HI:=zh (show SpI S x w (Dat.all x) (.slice none 0 0) W0 from by
  have hbl:Below w.heap.size w W0:=by rw[<-hW0];exact (Below.one w _).trans ((Below.one _ _).mono (by simp))
  have hsz:W0.heap.size=w.heap.size+2:=by rw[<-hW0];simp
  obtain ⟨k',n',d',s',l'⟩:=x
  obtain ⟨sl,he,_⟩:=hv.open
  simp only[Value.agg.injEq,Array.mk.injEq,List.cons.injEq,and_true,Value.int.injEq,true_and,Value.string.injEq] at he
  obtain ⟨rfl,rfl,rfl,rfl,_⟩:=he
  refine zh ⟨k,n,d,st,l',o,len,cap,[],?_,?_,?_,GrownS.nil _ (fun b h=>qzM (s2_lt hS b h) (by omega)) (by omega),hbl,hsh,qzL,by simp,rfl⟩
  ·rw[<-hW0];exact (Box5.new w _ _ _ _ _ _).alloc _
  ·refine hv.shown (fun c o' u hc hu=>?_) (by omega)
   have hlt:=zai hu
   refine ⟨fun h=>?_,(hbl.cell (p:=⟨c,o',none⟩) hlt).trans hu⟩
   rcases h with ((h | h) | h) | h
   ·exact hc h
   ·omega
   ·omega
   ·cases h
  ·rw[<-hW0];have:=Box5.new (w.alloc (.cells #[.int .i64 k,.int .i64 n,.int .i64 d,.string st,.slice o len cap] 26)) 26 (.int .i64 0) (.int .i64 0) (.int .i64 0) (.string ⟨#[]⟩) (.slice none 0 0);rwa[World.size_alloc] at this)
 have HW0:=zh hW0
 have HSL:=zh (s2_lt hS)
 clear hv hW0 hsh hS
 go_enter func99,ntmps99
 go_wp2_with fail
 rw[HW0.out]
 clear HW0
 go_loopg [4] (Dat.all x) (fun g lv wr=>SpI S x w g lv wr)
 case atStart=>exact HI.out
 case round=>
  obtain ⟨k1,n1,d1,st1,l1,o1,len1,cap1,done,hbx,ji,hby,hg,hbl,hshp,hle,jk,hsp⟩:=hrel.out
  clear hrel HI
  obtain ⟨o3,len3,cap3,hv3,hl3,hl4⟩:=hg.form
  subst hv3
  obtain ⟨q0,q1,q2,q3,q4⟩:=hbx.cells
  have ql:=hbx.lt
  have HBX:=zh hbx
  have HBY:=zh hby
  have HG:=zh hg
  have HBL:=zh hbl
  have hap:=Sy.all_pos (Dat.mk k1 n1 d1 st1 l1)
  by_cases k6:k1=6
  ·have hk6:(k1==6)=true:=by simpa using k6
   obtain ⟨a,b,rfl,hsa,hsb⟩:=Sy.shaped_pair hshp k6
   have hall:Dat.all (.mk k1 n1 d1 st1 [a,b])=1+(Dat.all a+(Dat.all b+0)):=rfl
   rw[Sy.split_pair k6] at hsp
   obtain ⟨sl,he,_,_,_,_,hs⟩:=ji.open
   simp only[Value.agg.injEq,Array.mk.injEq,List.cons.injEq,and_true,true_and] at he
   subst he
   obtain ⟨o5,len5,cap5,he5,hl5,hc5,hm5,hm6⟩:=hs
   simp only[Value.slice.injEq] at he5
   obtain ⟨rfl,rfl,rfl⟩:=he5
   obtain ⟨bb,off,ka,na,da,sa,la,oa,lna,cpa,ho,hxa,e0,e1,e2,e3,e4,er⟩:=zat hm6 (Below.refl _ (hide wr (SR (S2 S w.heap.size) (.slice o3 len3 cap3)))) (j:=0) rfl
   obtain ⟨bb',off',kb,nb,db,sb,lb,ob,lnb,cpb,ho',hxb,f0,f1,f2,f3,f4,fr⟩:=zat hm6 (Below.refl _ (hide wr (SR (S2 S w.heap.size) (.slice o3 len3 cap3)))) (j:=1) rfl
   subst ho
   simp only[Option.some.injEq,Addr.mk.injEq,and_true] at ho'
   obtain ⟨rfl,rfl⟩:=ho'
   have hbb:=(zaa e0).1
   replace e0:=(zaa e0).2
   replace e1:=(zaa e1).2
   replace e2:=(zaa e2).2
   replace e3:=(zaa e3).2
   replace e4:=(zaa e4).2
   replace f0:=(zaa f0).2
   replace f1:=(zaa f1).2
   replace f2:=(zaa f2).2
   replace f3:=(zaa f3).2
   replace f4:=(zaa f4).2
   simp only[Nat.zero_mul,Nat.add_zero,Nat.one_mul] at e0 e1 e2 e3 e4 f0 f1 f2 f3 f4
   have hbl1:=zai e0
   have hln1:len1=2:=hl5
   subst hln1
   have je:Below wr.heap.size wr (wr.alloc (.cells #[.int .i64 ka,.int .i64 na,.int .i64 da,.string sa,.slice oa lna cpa] 26)):=Below.one _ _
   have HG1:=zh (hg.below je)
   have HK1:=zh (zax (x:=a) (sr_lt hg qzL) (by rw[hxa];exact er))
   have HFR:=zh (show RepD (hide wr (SR (S2 S w.heap.size) (.slice o3 len3 cap3))) wr.heap.size b _ from by rw[hxb];exact fr)
   have HBB:=zh hbb
   have HONE:=zh je
   have HF:=zh (show wr.cell? ⟨bb,off+5,none⟩=some (.int .i64 kb)∧wr.cell? ⟨bb,off+6,none⟩=some (.int .i64 nb)∧wr.cell? ⟨bb,off+7,none⟩=some (.int .i64 db)∧wr.cell? ⟨bb,off+8,none⟩=some (.string sb)∧wr.cell? ⟨bb,off+9,none⟩=some (.slice ob lnb cpb) from ⟨f0,f1,f2,f3,f4⟩)
   have HSP:=zh hsp
   have HBL1:=zh hbl
   have HROW:=zh (fun (g:Nat) (hg':(Value.slice o3 len3 cap3).ownBlock=some g)=>(hg.block hg').1)
   obtain ⟨dn,hdn⟩:∃dn,done.length=dn:=⟨_,rfl⟩
   rw[hdn] at jk
   have HDN:=zh hdn
   have HXA:=zh hxa
   have HXB:=zh hxb
   have hszw:w.heap.size+2<=wr.heap.size:=hg.2.2.1
   clear hbx ji hby hg hbl hsp je er fr hbb f0 f1 f2 f3 f4 hl4 hl5 hm6 hxa hxb hdn hc5 hm5 hshp
   go_upto_region 3 with (first | (at_builtin;go_loud (refine zaj rfl fun K hK=>zav (S:=S2 S w.heap.size) (.tmp 12) (.tmp 17) rfl (w.heap.size+2) (.slice o3 len3 cap3) (.slice (some ⟨wr.heap.size,0,none⟩) 1 1) done [a] rfl HG1 rfl HK1 (by rw[HDN.out];simp;omega) fun o7 len7 cap7 w7 h7 h8 h9 h10=>hK _ _ ?_)))
   have hz7:wr.heap.size<w7.heap.size:=by have:=h9.out.size;simp only[World.size_alloc] at this;omega
   have hbx7:Box5 w7 w.heap.size 26 (.int .i64 k1) (.int .i64 n1) (.int .i64 d1) (.string st1) (.slice (some ⟨bb,off,none⟩) 2 cap1):=(h9.out.block _ (by simp;omega) (fun hq=>by have:=HROW.out _ hq;omega)).trans (HBX.out.alloc _)
   have hby7:Box5 w7 (w.heap.size+1) 26 (.int .i64 0) (.int .i64 0) (.int .i64 0) (.string ⟨#[]⟩) (.slice none 0 0):=(h9.out.block _ (by simp;omega) (fun hq=>by have:=HROW.out _ hq;omega)).trans (HBY.out.alloc _)
   have hcl:∀i u,wr.cell? ⟨bb,i,none⟩=some u->w7.cell? ⟨bb,i,none⟩=some u:=fun i u hu=>(h10.out bb i u HBB.out ((World.cell?_alloc_past _ _ _ (zai hu)).trans hu)).2
   have f0:=hcl _ _ HF.out.1
   have f1:=hcl _ _ HF.out.2.1
   have f2:=hcl _ _ HF.out.2.2.1
   have f3:=hcl _ _ HF.out.2.2.2.1
   have f4:=hcl _ _ HF.out.2.2.2.2
   have fl:=zai f0
   obtain ⟨t0,t1,t2,t3,t4⟩:=hbx7.cells
   obtain ⟨zz0,zz1,zz2,zz3,zz4⟩:=hbx7.free
   have tl:=hbx7.lt
   have HBX7:=zh hbx7
   have HBY7:=zh hby7
   have HRB:=zh ((HFR.out.shown (Shown.below HONE.out) (by simp)).shown h10.out h9.out.size)
   clear hbx7 hby7 hcl q0 q1 q2 q3 q4 e0 e1 e2 e3 e4
   go_wp2_with fail
   go_roundg (Dat.all b)
   case measure=>omega
   case rel=>
    rw[HXB.out]
    refine zh ⟨kb,nb,db,sb,lb,ob,lnb,cpb,done++[a],HBX7.out.set (.int .i64 kb) (.int .i64 nb) (.int .i64 db) (.string sb) (.slice ob lnb cpb),?_,(show Box5 (set5 w7 w.heap.size (.int .i64 kb) (.int .i64 nb) (.int .i64 db) (.string sb) (.slice ob lnb cpb)) (w.heap.size+1) 26 (.int .i64 0) (.int .i64 0) (.int .i64 0) (.string ⟨#[]⟩) (.slice none 0 0) from (zam _ _ _ _ _ _ _ (by omega)).trans HBY7.out),h7.out.five (.inl (.inr rfl)) (.int .i64 kb) (.int .i64 nb) (.int .i64 db) (.string sb) (.slice ob lnb cpb),?_,by rw[<-HXB.out];exact hsb,by rw[<-HXB.out];exact qzL,?_,?_⟩
    ·rw[<-HXB.out];exact HRB.out.shown (Shown.five w7 (S:=SR (S2 S w.heap.size) (.slice o7 len7 cap7)) (.inl (.inl (.inr rfl))) _ _ _ _ _) (by rw[zan];exact qzL)
    ·exact (HBL1.out.trans ((HONE.out.mono HBL1.out.size))).trans ((h8.out.mono (by omega)).trans (zag _ _ _ _ _ _ _ _ qzL))
    ·rw[<-HXB.out,List.length_append,HDN.out,List.length_singleton]
     have:=Sy.all_pos a
     omega
    ·rw[<-HXB.out,HSP.out,List.append_assoc];rfl
  ·have hk6:(k1==6)=false:=by simpa using k6
   rw[Sy.split_other k6,List.append_nil] at hsp
   obtain ⟨v0,v1,v2,v3,v4⟩:=hby.cells
   obtain ⟨y0,y1,y2,y3,y4⟩:=hby.free
   have gl3:=hby.lt
   have HSP:=zh hsp
   have HR:=zh ji
   clear hbx ji hby hg hbl hshp hle jk hsp hl4
   go_wp2_with fail
   go_region
   all_goals go_wp2_with fail
   all_goals
    have HR6:=zh (HBY.out.set (.int .i64 k1) (.int .i64 n1) (.int .i64 d1) (.string st1) (.slice o1 len1 cap1))
    obtain ⟨r0,r1,r2,r3,r4⟩:=HR6.out.cells
    refine bodyPost_ret (v:=.tuple #[.slice o3 len3 cap3,.agg #[.int .i64 k1,.int .i64 n1,.int .i64 d1,.string st1,.slice o1 len1 cap1]]) (by simp[results,results99,go_sem,r0,r1,r2,r3,r4]) rfl ?_
    rw[HSP.out]
    have h5:Below wr.heap.size (set5 wr (w.heap.size+1) (.int .i64 k1) (.int .i64 n1) (.int .i64 d1) (.string st1) (.slice o1 len1 cap1)) (set5 wr (w.heap.size+1) (.int .i64 k1) (.int .i64 n1) (.int .i64 d1) (.string st1) (.slice o1 len1 cap1)).drew:=by have:=Below.selfN (set5 wr (w.heap.size+1) (.int .i64 k1) (.int .i64 n1) (.int .i64 d1) (.string st1) (.slice o1 len1 cap1)) 1;rwa[zan] at this
    have hshw:Shown wr (SR (S2 S w.heap.size) (.slice o3 len3 cap3)) (set5 wr (w.heap.size+1) (.int .i64 k1) (.int .i64 n1) (.int .i64 d1) (.string st1) (.slice o1 len1 cap1)).drew (SR S (.slice o3 len3 cap3)):=((Shown.five wr (S:=SR (S2 S w.heap.size) (.slice o3 len3 cap3)) (.inl (.inr rfl)) _ _ _ _ _).trans (Shown.below (by rw[zan];exact h5))).trans (Shown.less _ fun b _ h=>h.elim (fun h=>.inl (.inl (.inl h))) .inr)
    exact ⟨o3,len3,cap3,k1,n1,d1,st1,o1,len1,cap1,rfl,((HG.out.five (.inr rfl) _ _ _ _ _).below (by rw[zan];exact h5)).less (fun b h=>.inl (.inl h)) (by omega),HR.out.shown hshw (by rw[<-zan wr];exact h5.size),HBL.out.trans ((zag _ _ _ _ _ _ _ _ (Nat.le_succ _)).trans (h5.mono HBL.out.size))⟩
theorem zaE {w:World} {B:Nat} {y:Dat} {k:Int} {c1 c2 c3 c4:Value} (h:RepD w B y (.agg #[.int .i64 k,c1,c2,c3,c4])):y.kind=k:=by
 obtain ⟨k',n',d',s',l'⟩:=y
 obtain ⟨sl,he,_⟩:=h.open
 simp only[Value.agg.injEq,Array.mk.injEq,List.cons.injEq,and_true,Value.int.injEq,true_and] at he
 exact he.1.symm
def ItemsS (S:Nat->Prop) (l:List Dat) (r:Bool) (w:World) (e:Ending) (w':World):Prop:=
 ∃(o':Option Addr) (len' cap':Nat),e=.returned (.tuple #[.slice o' len' cap',.bool r])∧RepS (hide w' S) w'.heap.size l (.slice o' len' cap')∧Below w.heap.size w w'
theorem zbn (S:Nat->Prop) (x:Dat) (v:Value) (B:Nat) (w:World) (r:Bool) (hr:((Sy.split x).2.kind==4)=r) (hS:∀b,S b->b<w.heap.size) (hv:RepD (hide w S) B x v) (hB:B<=w.heap.size) (hsh:Dat.shaped x=true) (hal:Dat.all x<=100000) :
  Calls prog 73 #[v] w (ItemsS S (Sy.split x).1 r w):=by
 obtain ⟨k,n,d,st,o,len,cap,rfl⟩:=zae hv.unhide
 obtain ⟨W0,hW0⟩:∃W0,w.alloc (.cells #[.int .i64 k,.int .i64 n,.int .i64 d,.string st,.slice o len cap] 26)=W0:=⟨_,rfl⟩
 have hb:Box5 W0 w.heap.size 26 (.int .i64 k) (.int .i64 n) (.int .i64 d) (.string st) (.slice o len cap):=by rw[<-hW0];exact Box5.new w _ _ _ _ _ _
 have hbl:Below w.heap.size w W0:=by rw[<-hW0];exact Below.one _ _
 have HC:=zh (zc8 S x (.agg #[.int .i64 k,.int .i64 n,.int .i64 d,.string st,.slice o len cap]) B W0 (fun b h=>qzM (hS b h) hbl.size) (hv.kept (zbp (hbl.mono hB))) (Nat.le_trans hB hbl.size) hsh hal)
 obtain ⟨p0,p1,p2,p3,p4⟩:=hb.cells
 have pl:=hb.lt
 have HBL:=zh hbl
 have HR:=zh hr
 have HW0:=zh hW0
 clear hb hbl hW0 hv hsh hr hS
 go_enter func73,ntmps73
 go_upto_region 1 with fail
 rw[HW0.out]
 go_upto_region 2 with (first | (go_at_call 99;refine HC.out.mono ?_;rintro e' w1 ⟨o',len',cap',ek,en,ed,es,eo,el,ec,rfl,hl1,he1,hb1⟩))
 have hbe:Box5 (w1.alloc (.cells #[.int .i64 ek,.int .i64 en,.int .i64 ed,.string es,.slice eo el ec] 26)) w1.heap.size 26 (.int .i64 ek) (.int .i64 en) (.int .i64 ed) (.string es) (.slice eo el ec):=Box5.new w1 _ _ _ _ _ _
 have je:Below w1.heap.size w1 (w1.alloc (.cells #[.int .i64 ek,.int .i64 en,.int .i64 ed,.string es,.slice eo el ec] 26)):=Below.one _ _
 have hek:(ek==4)=r:=by
  rw[<-HR.out]
  rw[zaE he1]
 generalize w1.alloc (.cells #[.int .i64 ek,.int .i64 en,.int .i64 ed,.string es,.slice eo el ec] 26)=W2 at hbe je ⊢
 generalize w1.heap.size=E at hbe
 obtain ⟨q0,q1,q2,q3,q4⟩:=hbe.cells
 have ql:=hbe.lt
 have HL:=zh (hl1.rep.shown (Shown.below je) je.size)
 have HB2:=zh (HBL.out.trans ((hb1.trans (je.mono hb1.size)).mono HBL.out.size))
 clear hbe je hl1 he1 hb1 p0 p1 p2 p3 p4 pl
 go_quiet (fail)
 go_wp2_with fail
 refine bodyPost_ret (v:=.tuple #[.slice o' len' cap',.bool r]) (by simp[results,results73,go_sem]) rfl ?_
 exact ⟨o',len',cap',rfl,HL.out.shown (Shown.below (Below.selfN W2 _)) qzL,Below.drewN HB2.out _⟩
end
section
open Go Go.RowKit
theorem zcY {b:Nat} {s:ByteArray} {res:Rd.Res Dat} {w W1 w2:World} {x:Dat} {k9 n9 d9:Int} {s9:ByteArray} {o9:Option Addr} {len9 cap9 a9:Nat} {m9:Int} (hT:Turned (fun c=>c=b) w W1) (hlt:w.heap.size<W1.heap.size) (hne:w.heap.size≠b)
  (ji:RepD (hide w2 (Lo W1.heap.size)) w2.heap.size x (.agg #[.int .i64 k9,.int .i64 n9,.int .i64 d9,.string s9,.slice o9 len9 cap9])) (hrb:RB w2 b s a9 m9) (ht:Turned (fun c=>c=b) W1 w2) (hf:RFits s res x a9 m9) :
  RUni b s res w (.returned (.agg #[.int .i64 k9,.int .i64 n9,.int .i64 d9,.string s9,.slice o9 len9 cap9])) (set5 w2 w.heap.size (.int .i64 k9) (.int .i64 n9) (.int .i64 d9) (.string s9) (.slice o9 len9 cap9)):=by
 refine ⟨x,k9,n9,d9,s9,o9,len9,cap9,a9,m9,rfl,ji.shown ((Shown.five w2 (S:=Lo W1.heap.size) hlt _ _ _ _ _).trans (Shown.less _ fun q _ hq=>by unfold Lo at hq ⊢;omega)) (by rw[zan];exact qzL),?_,zbc (hT.next ht) (zag _ _ _ _ _ _ _ _ qzL),hf⟩
 exact (zam _ _ _ _ _ _ _ (Ne.symm hne)).trans hrb
theorem ziX {b:Nat} {s:ByteArray} {res:Rd.Res Dat} {w w2:World} {x:Dat} {E:Nat} {k9 n9 d9:Int} {s9:ByteArray} {o9:Option Addr} {len9 cap9 a9:Nat} {m9:Int} (hT:Turned (fun c=>c=b) w w2) (hlt:w.heap.size<E) (hne:w.heap.size≠b)
  (ji:RepD (hide w2 (Lo E)) w2.heap.size x (.agg #[.int .i64 k9,.int .i64 n9,.int .i64 d9,.string s9,.slice o9 len9 cap9])) (hrb:RB w2 b s a9 m9) (hf:RFits s res x a9 m9) :
  RUni b s res w (.returned (.agg #[.int .i64 k9,.int .i64 n9,.int .i64 d9,.string s9,.slice o9 len9 cap9])) (set5 w2 w.heap.size (.int .i64 k9) (.int .i64 n9) (.int .i64 d9) (.string s9) (.slice o9 len9 cap9)):=by
 refine ⟨x,k9,n9,d9,s9,o9,len9,cap9,a9,m9,rfl,ji.shown ((Shown.five w2 (S:=Lo E) hlt _ _ _ _ _).trans (Shown.less _ fun q _ hq=>by unfold Lo at hq ⊢;omega)) (by rw[zan];exact qzL),?_,zbc hT (zag _ _ _ _ _ _ _ _ qzL),hf⟩
 exact (zam _ _ _ _ _ _ _ (Ne.symm hne)).trans hrb
theorem zhS (b:Nat) (s:ByteArray) (a:Nat) (q:List UInt8) (W:World) (hp:RB W b s a (-1)) (p:Int) (hq:p=((s.size-q.length:Nat):Int)) :
  Calls prog 36 #[.pointer (some ⟨b,0,none⟩),.int .i64 p] W (RUni b s (.bad q:Rd.Res Dat) W):=by
 refine (zb7 b s a (-1) p W hp).mono ?_
 rintro e w' ⟨rfl,h2,h3⟩
 rw[if_pos (by decide)] at h2
 exact ⟨.mk 4 0 0 ⟨#[]⟩ [],4,0,0,⟨#[]⟩,none,0,0,a,p,rfl,RepD.shut (by omega) (by omega) (by omega) (by decide) ⟨none,0,0,rfl,rfl,by omega,by omega,rfl,rfl⟩,h2,h3,hq⟩
def LoE (K E b:Nat):Prop:=b<K∨b=E
def TailR (b:Nat) (s:ByteArray) (K E a':Nat) (m:Int) (w:World) (l0:List Dat) (y:Dat) (lv:Value) (j:Nat) (wt:World):Prop:=Hid (∃(z:Dat) (k n d:Int) (st:ByteArray) (o:Option Addr) (len cap:Nat),RB wt b s a' m∧RepS (hide wt (LoE K E)) wt.heap.size l0 lv∧Turned (fun c=>c=b) w wt∧Box5 wt w.heap.size 26 (.int .i64 0) (.int .i64 0) (.int .i64 0) (.string ⟨#[]⟩) (.slice none 0 0) ∧
 Box5 wt E 26 (.int .i64 k) (.int .i64 n) (.int .i64 d) (.string st) (.slice o len cap)∧RepD (hide wt (LoE K E)) wt.heap.size z (.agg #[.int .i64 k,.int .i64 n,.int .i64 d,.string st,.slice o len cap])∧(l0.take j).foldr Dat.pair z=Rd.chain (l0,y))
theorem TailR.drew {b:Nat} {s:ByteArray} {K E a':Nat} {m:Int} {w:World} {l0:List Dat} {y:Dat} {lv:Value} {j:Nat} {wt:World} (h:TailR b s K E a' m w l0 y lv j wt):TailR b s K E a' m w l0 y lv j wt.drew:=by
 obtain ⟨z,k,n,d,st,o,len,cap,h1,h2,h3,h4,h5,h6,h7⟩:=h.out
 exact zh ⟨z,k,n,d,st,o,len,cap,h1,h2.shown (Shown.below (Below.selfN wt 1)) qzL,h3.next (Turned.of_below (Below.selfN wt 1)),h4,h5,h6.shown (Shown.below (Below.selfN wt 1)) qzL,h7⟩
theorem RepS.len {w:World} {B:Nat} {l:List Dat} {o:Option Addr} {len cap:Nat} (h:RepS w B l (.slice o len cap)):len=l.length:=by
 obtain ⟨o5,len5,cap5,he5,hl5,_⟩:=h
 simp only[Value.slice.injEq] at he5
 obtain ⟨rfl,rfl,rfl⟩:=he5
 exact hl5
theorem RepS.bound {w:World} {B:Nat} {l:List Dat} {o:Option Addr} {len cap:Nat} (h:RepS w B l (.slice o len cap)):len<=9223372036854775807:=by
 obtain ⟨o5,len5,cap5,he5,hl5,h1,h2,_⟩:=h
 simp only[Value.slice.injEq] at he5
 obtain ⟨rfl,rfl,rfl⟩:=he5
 omega
theorem zgq {w:World} {K:Nat} (cs:Obj) (_hK:K<=w.heap.size):Shown w (Lo K) (w.alloc cs) (LoE K w.heap.size):=fun c o u hc hu=>by
 have hlt:=zai hu
 exact ⟨fun h=>h.elim hc (fun e=>by omega),(World.cell?_alloc_past _ _ _ hlt).trans hu⟩
theorem zhh (n:Nat) (HDAT:RDatOk n) (HSEQ:RSeqOk n) (b:Nat) (s:ByteArray) (a:Nat) (r:List UInt8) (w:World) (dp:Int) (hr:r.length<n+1) (hp:RB w b s a (-1)) (hat:Rd.At s a r) (hs:s.size<=65536) :
  Calls prog 35 #[.pointer (some ⟨b,0,none⟩),.int .i64 dp] w (RUni b s (Rd.D r) w):=by
 have hb:=hp.lt
 have hne:w.heap.size≠b:=by omega
 obtain ⟨W0,hW0⟩:∃W0,w.alloc (.cells #[.int .i64 0,.int .i64 0,.int .i64 0,.string ⟨#[]⟩,.slice none 0 0] 26)=W0:=⟨_,rfl⟩
 have HW0:=zh hW0
 have HB0:=zh (show Box5 W0 w.heap.size 26 (.int .i64 0) (.int .i64 0) (.int .i64 0) (.string ⟨#[]⟩) (.slice none 0 0) from by rw[<-hW0];exact Box5.new w _ _ _ _ _ _)
 have HP0:=zh (show RB W0 b s a (-1) from by rw[<-hW0];exact BoxL.alloc hp _)
 have HT0:=zh (show Turned (fun c=>c=b) w W0 from by rw[<-hW0];exact Turned.of_below (Below.one _ _))
 clear hW0
 have hC:=zb3 b s a (-1) r W0 HP0.out hat hs
 have hq:=hat.suf (Rd.skip_suf r false)
 have hql:=Rd.skip_le r false
 have hD:=Rd.D_eq r
 unfold Rd.datF at hD
 obtain ⟨k,hk⟩:∃k,s.size-(Rd.skip false r).length=k:=⟨_,rfl⟩
 rw[hk] at hC
 have hks:k<=s.size:=by omega
 cases hsk:Rd.skip false r with
 | nil=>
  rw[hsk] at hC hD hk
  have hkn:k=s.size:=by simpa using hk.symm
  have heq:((k:Int)==(s.size:Int))=true:=by simp;omega
  have HC:=zh hC
  have HD:=zh hD
  have HK:=zh (show (k:Int)=((s.size-([]:List UInt8).length:Nat):Int) from by rw[hk])
  clear hp hat hC hq hql hD hsk hk hkn
  go_enter func35,ntmps35
  go_upto_region 1 with fail
  rw[HW0.out]
  go_upto_region 2 with (first | (go_at_call 34;refine HC.out.mono ?_;rintro e' w1 ⟨rfl,hr1,ht1⟩;have c0:=hr1.cell 0 rfl;have c1:=hr1.cell 1 rfl;have hl:=hr1.lt;have HP9:=zh hr1;have HT:=zh ht1;clear hr1 ht1))
  go_quiet (fail)
  have hp1:RB (w1.drewN nq) b s k (-1):=RB.drewN HP9.out _
  have ht1:Turned (fun c=>c=b) w (w1.drewN nq):=HT0.out.next (HT.out.next (Turned.of_below (Below.selfN _ _)))
  have hb1:Box5 (w1.drewN nq) w.heap.size 26 (.int .i64 0) (.int .i64 0) (.int .i64 0) (.string ⟨#[]⟩) (.slice none 0 0):=(HT.out.block _ HB0.out.lt hne).trans HB0.out
  generalize w1.drewN nq=W1 at hp1 ht1 hb1 ⊢
  have HP1:=zh hp1
  have HT1:=zh ht1
  have HB1:=zh hb1
  have hl1:=hb1.lt
  clear hp1 ht1 hb1 c0 c1 hl
  have f1:=HP1.out.cell 1 rfl
  have fl:=HP1.out.lt
  go_wp2_with (first | (go_at_call 64;refine (HM.out _).mono ?_;rintro e' w5 ⟨rfl,rfl⟩) | (go_at_call 36;refine (zhS b s k [] _ HP1.out _ HK.out).mono ?_;rintro e' w2 ⟨x,k9,n9,d9,s9,o9,len9,cap9,a9,m9,rfl,ji,hrb,ht2,hf⟩;have hb2:Box5 w2 w.heap.size 26 (.int .i64 0) (.int .i64 0) (.int .i64 0) (.string ⟨#[]⟩) (.slice none 0 0):=(ht2.block _ HB1.out.lt hne).trans HB1.out;obtain ⟨p0,p1,p2,p3,p4⟩:=hb2.cells;obtain ⟨z0,z1,z2,z3,z4⟩:=hb2.free;have pl:=hb2.lt;have HB2:=zh hb2;have HREP:=zh ji;have HRB2:=zh hrb;have HT2:=zh ht2;have HF2:=zh hf;clear hb2 ji hrb ht2 hf))
  have HR5:=zh (HB2.out.set (.int .i64 k9) (.int .i64 n9) (.int .i64 d9) (.string s9) (.slice o9 len9 cap9))
  obtain ⟨r0,r1,r2,r3,r4⟩:=HR5.out.cells
  refine bodyPost_ret (v:=.agg #[.int .i64 k9,.int .i64 n9,.int .i64 d9,.string s9,.slice o9 len9 cap9]) (by simp[results,results35,go_sem,r0,r1,r2,r3,r4]) rfl ?_
  rw[HD.out]
  exact zcY HT1.out hl1 hne HREP.out HRB2.out HT2.out HF2.out
 | cons c t=>
  rw[hsk] at hC hD hq hql hk
  simp only[qzN] at hql
  have heq:((k:Int)==(s.size:Int))=false:=by have:=hq.1;simp only[qzN] at this hk;simp;omega
  have HC:=zh hC
  have HD0:=(show Rd.D r=Rd.headF Rd.D Rd.S c t from hD)
  unfold Rd.headF at HD0
  have HK:=zh (show (k:Int)=((s.size-(c::t).length:Nat):Int) from by rw[hk])
  have HQ:=zh (show Rd.At s k (c::t) from by rw[<-hk];exact hq)
  have htn:t.length<n:=by omega
  have q34:((c.toNat:Int)==34)=decide (c=34):=u8_eq c 34
  have q39:((c.toNat:Int)==39)=decide (c=39):=u8_eq c 39
  have q35:((c.toNat:Int)==35)=decide (c=35):=u8_eq c 35
  have q40:((c.toNat:Int)==40)=decide (c=40):=u8_eq c 40
  have hADD3:((k:Int)+1)=((k+1:Nat):Int):=by omega
  have HADD3:=zh hADD3
  clear hp hat hC hq hql hD hsk hk hADD3
  by_cases hm:Rd.mark c=true
  ·rw[if_pos hm] at HD0
   have HD:=zh HD0
   have HM:=zh (show ∀W,Calls prog 64 #[.int .u8 c.toNat] W fun e w'=>e=.returned (.bool true)∧w'=W from fun W=>by have:=zd6 c W;rw[hm] at this;exact this)
   clear HD0 hm q34 q39 q35 q40
   go_enter func35,ntmps35
   go_upto_region 1 with fail
   rw[HW0.out]
   go_upto_region 2 with (first | (go_at_call 34;refine HC.out.mono ?_;rintro e' w1 ⟨rfl,hr1,ht1⟩;have c0:=hr1.cell 0 rfl;have c1:=hr1.cell 1 rfl;have hl:=hr1.lt;have HP9:=zh hr1;have HT:=zh ht1;clear hr1 ht1))
   go_quiet (fail)
   have hp1:RB (w1.drewN nq) b s k (-1):=RB.drewN HP9.out _
   have ht1:Turned (fun c=>c=b) w (w1.drewN nq):=HT0.out.next (HT.out.next (Turned.of_below (Below.selfN _ _)))
   have hb1:Box5 (w1.drewN nq) w.heap.size 26 (.int .i64 0) (.int .i64 0) (.int .i64 0) (.string ⟨#[]⟩) (.slice none 0 0):=(HT.out.block _ HB0.out.lt hne).trans HB0.out
   generalize w1.drewN nq=W1 at hp1 ht1 hb1 ⊢
   have HP1:=zh hp1
   have HT1:=zh ht1
   have HB1:=zh hb1
   have hl1:=hb1.lt
   clear hp1 ht1 hb1 c0 c1 hl
   have f1:=HP1.out.cell 1 rfl
   have fl:=HP1.out.lt
   go_wp2_with (first | (go_at_call 64;refine (HM.out _).mono ?_;rintro e' w5 ⟨rfl,rfl⟩) | (go_at_call 65;refine ((ziR b s k (c::t) _ HP1.out HQ.out hs).mono fun e w' h=>h.uni).mono ?_;rintro e' w2 ⟨x,k9,n9,d9,s9,o9,len9,cap9,a9,m9,rfl,ji,hrb,ht2,hf⟩;have hb2:Box5 w2 w.heap.size 26 (.int .i64 0) (.int .i64 0) (.int .i64 0) (.string ⟨#[]⟩) (.slice none 0 0):=(ht2.block _ HB1.out.lt hne).trans HB1.out;obtain ⟨p0,p1,p2,p3,p4⟩:=hb2.cells;obtain ⟨z0,z1,z2,z3,z4⟩:=hb2.free;have pl:=hb2.lt;have HB2:=zh hb2;have HREP:=zh ji;have HRB2:=zh hrb;have HT2:=zh ht2;have HF2:=zh hf;clear hb2 ji hrb ht2 hf))
   have HR5:=zh (HB2.out.set (.int .i64 k9) (.int .i64 n9) (.int .i64 d9) (.string s9) (.slice o9 len9 cap9))
   obtain ⟨r0,r1,r2,r3,r4⟩:=HR5.out.cells
   refine bodyPost_ret (v:=.agg #[.int .i64 k9,.int .i64 n9,.int .i64 d9,.string s9,.slice o9 len9 cap9]) (by simp[results,results35,go_sem,r0,r1,r2,r3,r4]) rfl ?_
   rw[HD.out]
   exact zcY HT1.out hl1 hne HREP.out HRB2.out HT2.out HF2.out
  rw[if_neg hm] at HD0
  have HM:=zh (show ∀W,Calls prog 64 #[.int .u8 c.toNat] W fun e w'=>e=.returned (.bool false)∧w'=W from fun W=>by have:=zd6 c W;rw[Bool.eq_false_iff.2 hm] at this;exact this)
  clear hm
  by_cases h34:c=34
  ·rw[decide_eq_true h34] at q34
   rw[if_pos h34] at HD0
   have HD:=zh HD0
   have HQ2:=zh (show Rd.At s k (34::t) from h34 ▸ HQ.out)
   clear HD0 h34
   go_enter func35,ntmps35
   go_upto_region 1 with fail
   rw[HW0.out]
   go_upto_region 2 with (first | (go_at_call 34;refine HC.out.mono ?_;rintro e' w1 ⟨rfl,hr1,ht1⟩;have c0:=hr1.cell 0 rfl;have c1:=hr1.cell 1 rfl;have hl:=hr1.lt;have HP9:=zh hr1;have HT:=zh ht1;clear hr1 ht1))
   go_quiet (fail)
   have hp1:RB (w1.drewN nq) b s k (-1):=RB.drewN HP9.out _
   have ht1:Turned (fun c=>c=b) w (w1.drewN nq):=HT0.out.next (HT.out.next (Turned.of_below (Below.selfN _ _)))
   have hb1:Box5 (w1.drewN nq) w.heap.size 26 (.int .i64 0) (.int .i64 0) (.int .i64 0) (.string ⟨#[]⟩) (.slice none 0 0):=(HT.out.block _ HB0.out.lt hne).trans HB0.out
   generalize w1.drewN nq=W1 at hp1 ht1 hb1 ⊢
   have HP1:=zh hp1
   have HT1:=zh ht1
   have HB1:=zh hb1
   have hl1:=hb1.lt
   clear hp1 ht1 hb1 c0 c1 hl
   have f1:=HP1.out.cell 1 rfl
   have fl:=HP1.out.lt
   go_wp2_with (first | (go_at_call 64;refine (HM.out _).mono ?_;rintro e' w5 ⟨rfl,rfl⟩) | (go_at_call 66;refine ((zkB b s k t _ HP1.out HQ2.out hs).mono fun e w' h=>h.uni).mono ?_;rintro e' w2 ⟨x,k9,n9,d9,s9,o9,len9,cap9,a9,m9,rfl,ji,hrb,ht2,hf⟩;have hb2:Box5 w2 w.heap.size 26 (.int .i64 0) (.int .i64 0) (.int .i64 0) (.string ⟨#[]⟩) (.slice none 0 0):=(ht2.block _ HB1.out.lt hne).trans HB1.out;obtain ⟨p0,p1,p2,p3,p4⟩:=hb2.cells;obtain ⟨z0,z1,z2,z3,z4⟩:=hb2.free;have pl:=hb2.lt;have HB2:=zh hb2;have HREP:=zh ji;have HRB2:=zh hrb;have HT2:=zh ht2;have HF2:=zh hf;clear hb2 ji hrb ht2 hf))
   have HR5:=zh (HB2.out.set (.int .i64 k9) (.int .i64 n9) (.int .i64 d9) (.string s9) (.slice o9 len9 cap9))
   obtain ⟨r0,r1,r2,r3,r4⟩:=HR5.out.cells
   refine bodyPost_ret (v:=.agg #[.int .i64 k9,.int .i64 n9,.int .i64 d9,.string s9,.slice o9 len9 cap9]) (by simp[results,results35,go_sem,r0,r1,r2,r3,r4]) rfl ?_
   rw[HD.out]
   exact zcY HT1.out hl1 hne HREP.out HRB2.out HT2.out HF2.out
  rw[decide_eq_false h34] at q34
  rw[if_neg h34] at HD0
  by_cases h39:c=39
  ·rw[decide_eq_true h39] at q39
   rw[if_pos h39] at HD0
   have HD:=zh HD0
   have hq1:Rd.At s (k+1) t:=HQ.out.cons
   have HCL:=zh (fun (W:World) (dp':Int) (hW:RB W b s (k+1) (-1))=>HDAT b s (k+1) t W dp' htn hW hq1 hs)
   clear HD0 h34 h39 hq1
   go_enter func35,ntmps35
   go_upto_region 1 with fail
   rw[HW0.out]
   go_upto_region 2 with (first | (go_at_call 34;refine HC.out.mono ?_;rintro e' w1 ⟨rfl,hr1,ht1⟩;have c0:=hr1.cell 0 rfl;have c1:=hr1.cell 1 rfl;have hl:=hr1.lt;have HP9:=zh hr1;have HT:=zh ht1;clear hr1 ht1))
   go_quiet (fail)
   have hp1:RB (w1.drewN nq) b s k (-1):=RB.drewN HP9.out _
   have ht1:Turned (fun c=>c=b) w (w1.drewN nq):=HT0.out.next (HT.out.next (Turned.of_below (Below.selfN _ _)))
   have hb1:Box5 (w1.drewN nq) w.heap.size 26 (.int .i64 0) (.int .i64 0) (.int .i64 0) (.string ⟨#[]⟩) (.slice none 0 0):=(HT.out.block _ HB0.out.lt hne).trans HB0.out
   generalize w1.drewN nq=W1 at hp1 ht1 hb1 ⊢
   have HP1:=zh hp1
   have HT1:=zh ht1
   have HB1:=zh hb1
   have hl1:=hb1.lt
   clear hp1 ht1 hb1 c0 c1 hl
   have f1:=HP1.out.cell 1 rfl
   have fl:=HP1.out.lt
   have f2:=HP1.out.free 1
   go_upto_region 11 with (first | (go_at_call 64;refine (HM.out _).mono ?_;rintro e' w5 ⟨rfl,rfl⟩))
   rw[HADD3.out]
   have hp3:RB (w5.setCell ⟨b,1,none⟩ (.int .i64 ((k+1:Nat):Int))) b s (k+1) (-1):=RB.at HP1.out _
   have ht3:Turned (fun c=>c=b) w5 (w5.setCell ⟨b,1,none⟩ (.int .i64 ((k+1:Nat):Int))):=Turned.set _ _ _ rfl
   generalize w5.setCell ⟨b,1,none⟩ (.int .i64 ((k+1:Nat):Int))=W3 at hp3 ht3 ⊢
   have HP3:=zh hp3
   have HT3:=zh ht3
   clear hp3 ht3 f1 f2 fl
   have hl3:w.heap.size<W3.heap.size:=qzM hl1 HT3.out.size
   go_wp2_with (first | (go_at_call 35;refine (HCL.out _ _ HP3.out).mono ?_;rintro e' w2 ⟨x,k9,n9,d9,s9,o9,len9,cap9,a9,m9,rfl,ji,hrb,ht2,hf⟩;have HREP0:=zh ji;have HRB2:=zh hrb;have HT2:=zh ht2;have HF2:=zh hf;clear ji hrb ht2 hf) | (go_at_call 67;refine (ziB (Lo (w.heap.size+1)) [Rd.quoteD,x] _ _ _ (fun q hq=>by have:=HT2.out.size;simp only[World.size_alloc];unfold Lo at hq;omega) (zla (fun q hq=>by have:=HT2.out.size;unfold Lo at hq;omega) (RepD.shut (by omega) (by omega) (by omega) (by decide) ⟨none,0,0,rfl,rfl,by omega,by omega,rfl,rfl⟩) (HREP0.out.shown (Shown.less _ fun q _ hq=>by unfold Lo at hq ⊢;omega) qzL) _) qzL).mono ?_;rintro e' w6 ⟨v,rfl,ji,hbl⟩;obtain ⟨k8,n8,d8,s8,o8,len8,cap8,rfl⟩:=zae ji.unhide;have hbl2:Below w2.heap.size w2 w6:=Below.next (Below.one w2 _) hbl;have hb3:Box5 w6 w.heap.size 26 (.int .i64 0) (.int .i64 0) (.int .i64 0) (.string ⟨#[]⟩) (.slice none 0 0):=(hbl2.block _ (qzM hl3 HT2.out.size)).trans ((HT2.out.block _ hl3 hne).trans ((HT3.out.block _ hl1 hne).trans HB1.out));obtain ⟨p0,p1,p2,p3,p4⟩:=hb3.cells;obtain ⟨z0,z1,z2,z3,z4⟩:=hb3.free;have pl:=hb3.lt;have HB2:=zh hb3;have HREP:=zh ji;have HP6:=zh (show RB w6 b s a9 m9 from BoxL.keep HRB2.out hbl2);have HT6:=zh (((HT1.out.next HT3.out).next HT2.out).next (Turned.of_below hbl2));clear hb3 ji hbl hbl2))
   have HR5:=zh (HB2.out.set (.int .i64 k8) (.int .i64 n8) (.int .i64 d8) (.string s8) (.slice o8 len8 cap8))
   obtain ⟨r0,r1,r2,r3,r4⟩:=HR5.out.cells
   refine bodyPost_ret (v:=.agg #[.int .i64 k8,.int .i64 n8,.int .i64 d8,.string s8,.slice o8 len8 cap8]) (by simp[results,results35,go_sem,r0,r1,r2,r3,r4]) rfl ?_
   rw[HD.out]
   exact ziX HT6.out (Nat.lt_succ_self _) hne HREP.out HP6.out (HF2.out.map Rd.quoted)
  rw[decide_eq_false h39] at q39
  rw[if_neg h39] at HD0
  by_cases h35:c=35
  ·rw[decide_eq_true h35] at q35
   rw[if_pos h35] at HD0
   have HD:=zh HD0
   have HQ2:=zh (show Rd.At s k (35::t) from h35 ▸ HQ.out)
   clear HD0 h34 h39 h35
   go_enter func35,ntmps35
   go_upto_region 1 with fail
   rw[HW0.out]
   go_upto_region 2 with (first | (go_at_call 34;refine HC.out.mono ?_;rintro e' w1 ⟨rfl,hr1,ht1⟩;have c0:=hr1.cell 0 rfl;have c1:=hr1.cell 1 rfl;have hl:=hr1.lt;have HP9:=zh hr1;have HT:=zh ht1;clear hr1 ht1))
   go_quiet (fail)
   have hp1:RB (w1.drewN nq) b s k (-1):=RB.drewN HP9.out _
   have ht1:Turned (fun c=>c=b) w (w1.drewN nq):=HT0.out.next (HT.out.next (Turned.of_below (Below.selfN _ _)))
   have hb1:Box5 (w1.drewN nq) w.heap.size 26 (.int .i64 0) (.int .i64 0) (.int .i64 0) (.string ⟨#[]⟩) (.slice none 0 0):=(HT.out.block _ HB0.out.lt hne).trans HB0.out
   generalize w1.drewN nq=W1 at hp1 ht1 hb1 ⊢
   have HP1:=zh hp1
   have HT1:=zh ht1
   have HB1:=zh hb1
   have hl1:=hb1.lt
   clear hp1 ht1 hb1 c0 c1 hl
   have f1:=HP1.out.cell 1 rfl
   have fl:=HP1.out.lt
   go_wp2_with (first | (go_at_call 64;refine (HM.out _).mono ?_;rintro e' w5 ⟨rfl,rfl⟩) | (go_at_call 68;refine (zjy n HSEQ b s k t _ dp (Nat.le_of_lt htn) HP1.out HQ2.out hs).mono ?_;rintro e' w2 ⟨x,k9,n9,d9,s9,o9,len9,cap9,a9,m9,rfl,ji,hrb,ht2,hf⟩;have hb2:Box5 w2 w.heap.size 26 (.int .i64 0) (.int .i64 0) (.int .i64 0) (.string ⟨#[]⟩) (.slice none 0 0):=(ht2.block _ HB1.out.lt hne).trans HB1.out;obtain ⟨p0,p1,p2,p3,p4⟩:=hb2.cells;obtain ⟨z0,z1,z2,z3,z4⟩:=hb2.free;have pl:=hb2.lt;have HB2:=zh hb2;have HREP:=zh ji;have HRB2:=zh hrb;have HT2:=zh ht2;have HF2:=zh hf;clear hb2 ji hrb ht2 hf))
   have HR5:=zh (HB2.out.set (.int .i64 k9) (.int .i64 n9) (.int .i64 d9) (.string s9) (.slice o9 len9 cap9))
   obtain ⟨r0,r1,r2,r3,r4⟩:=HR5.out.cells
   refine bodyPost_ret (v:=.agg #[.int .i64 k9,.int .i64 n9,.int .i64 d9,.string s9,.slice o9 len9 cap9]) (by simp[results,results35,go_sem,r0,r1,r2,r3,r4]) rfl ?_
   rw[HD.out]
   exact zcY HT1.out hl1 hne HREP.out HRB2.out HT2.out HF2.out
  rw[decide_eq_false h35] at q35
  rw[if_neg h35] at HD0
  by_cases h40:c=40
  ·rw[decide_eq_true h40] at q40
   rw[if_pos h40] at HD0
   have HD:=zh HD0
   have hq1:Rd.At s (k+1) t:=HQ.out.cons
   have HCL:=zh (fun (W:World) (dp':Int) (hW:RB W b s (k+1) (-1))=>HSEQ b s (k+1) t W true dp' htn hW hq1 hs)
   clear HD0 h34 h39 h35 h40 hq1
   go_enter func35,ntmps35
   go_upto_region 1 with fail
   rw[HW0.out]
   go_upto_region 2 with (first | (go_at_call 34;refine HC.out.mono ?_;rintro e' w1 ⟨rfl,hr1,ht1⟩;have c0:=hr1.cell 0 rfl;have c1:=hr1.cell 1 rfl;have hl:=hr1.lt;have HP9:=zh hr1;have HT:=zh ht1;clear hr1 ht1))
   go_quiet (fail)
   have hp1:RB (w1.drewN nq) b s k (-1):=RB.drewN HP9.out _
   have ht1:Turned (fun c=>c=b) w (w1.drewN nq):=HT0.out.next (HT.out.next (Turned.of_below (Below.selfN _ _)))
   have hb1:Box5 (w1.drewN nq) w.heap.size 26 (.int .i64 0) (.int .i64 0) (.int .i64 0) (.string ⟨#[]⟩) (.slice none 0 0):=(HT.out.block _ HB0.out.lt hne).trans HB0.out
   generalize w1.drewN nq=W1 at hp1 ht1 hb1 ⊢
   have HP1:=zh hp1
   have HT1:=zh ht1
   have HB1:=zh hb1
   have hl1:=hb1.lt
   clear hp1 ht1 hb1 c0 c1 hl
   have f1:=HP1.out.cell 1 rfl
   have fl:=HP1.out.lt
   have f2:=HP1.out.free 1
   go_upto_region 16 with (first | (go_at_call 64;refine (HM.out _).mono ?_;rintro e' w5 ⟨rfl,rfl⟩))
   rw[HADD3.out]
   have hp3:RB (w5.setCell ⟨b,1,none⟩ (.int .i64 ((k+1:Nat):Int))) b s (k+1) (-1):=RB.at HP1.out _
   have ht3:Turned (fun c=>c=b) w5 (w5.setCell ⟨b,1,none⟩ (.int .i64 ((k+1:Nat):Int))):=Turned.set _ _ _ rfl
   generalize w5.setCell ⟨b,1,none⟩ (.int .i64 ((k+1:Nat):Int))=W3 at hp3 ht3 ⊢
   have HP3:=zh hp3
   have HT3:=zh ht3
   clear hp3 ht3 f1 f2 fl
   have hl3:w.heap.size<W3.heap.size:=qzM hl1 HT3.out.size
   go_upto_region 17 with (first | (go_at_call 69;refine (HCL.out _ _ HP3.out).mono ?_;rintro e' w2 ⟨l0,y,o3,len3,cap3,k9,n9,d9,s9,o9,len9,cap9,a9,m9,rfl,hrs,ji,hrb,ht2,hf⟩))
   have hW3:w.heap.size<W3.heap.size:=hl3
   have hK3:=ht2.size
   have hln:=hrs.len
   have HI:=zh (show TailR b s W3.heap.size w2.heap.size a9 m9 w l0 y (.slice o3 len3 cap3) len3 (w2.alloc (.cells #[.int .i64 k9,.int .i64 n9,.int .i64 d9,.string s9,.slice o9 len9 cap9] 26)) from
    zh ⟨y,k9,n9,d9,s9,o9,len9,cap9,BoxL.alloc hrb _,hrs.shown (zgq _ hK3) (by simp),((HT1.out.next HT3.out).next ht2).next (Turned.of_below (Below.one _ _)),Box5.alloc (show Box5 w2 w.heap.size 26 (.int .i64 0) (.int .i64 0) (.int .i64 0) (.string ⟨#[]⟩) (.slice none 0 0) from (ht2.block _ hl3 hne).trans ((HT3.out.block _ hl1 hne).trans HB1.out)) _,Box5.new w2 _ _ _ _ _ _,ji.shown (zgq _ hK3) (by simp),by rw[List.take_of_length_le (Nat.le_of_eq hln.symm)];rfl⟩)
   have HLN:=zh hln
   have HF:=zh hf
   have hEl:w.heap.size<w2.heap.size:=qzM hl3 hK3
   have hKE:W3.heap.size<=w2.heap.size:=hK3
   have hbE:b<w2.heap.size:=by omega
   have hlb:len3<=9223372036854775807:=hrs.bound
   generalize w2.alloc (.cells #[.int .i64 k9,.int .i64 n9,.int .i64 d9,.string s9,.slice o9 len9 cap9] 26)=W4 at HI ⊢
   generalize w2.heap.size=E at HI hEl hKE hbE ⊢
   clear hrs ji hrb ht2 hf hln HB1 HT1 HP1 HP3 HT3 hl3 hl1 hK3
   go_wp2_with fail
   go_loopg [8] (len3+1) (fun g i wt=>∃(j:Nat),g=j+1∧j<=l0.length∧i=.int .i64 ((j:Int)-1)∧TailR b s W3.heap.size E a9 m9 w l0 y (.slice o3 len3 cap3) j wt)
   case atStart=>exact ⟨len3,rfl,Nat.le_of_eq HLN.out,rfl,HI.out⟩
   case round=>
    obtain ⟨j,rfl,hj,rfl,hti⟩:=hrel
    obtain ⟨z,ek,en,ed,es,eo,el,ec,hpb,hgr,htn,hbx,hbe,hrz,hch⟩:=hti.out
    clear hti
    obtain ⟨q0',q1,q2,q3,q4⟩:=hbe.cells
    obtain ⟨zz0,zz1,zz2,zz3,zz4⟩:=hbe.free
    have gl2:=hbe.lt
    have HPB:=zh hpb
    have HGR:=zh hgr
    have HTN:=zh htn
    have HBX:=zh hbx
    have HBE:=zh hbe
    have HRZ:=zh hrz
    have HCH:=zh hch
    have hnb:E≠b:=by omega
    by_cases hjl:0<j
    ·obtain ⟨i,rfl⟩:∃i,j=i+1:=⟨j-1,by omega⟩
     obtain ⟨x9,hx9⟩:∃x,l0[i]?=some x:=⟨_,List.getElem?_eq_getElem (by omega)⟩
     have hrs:=hgr
     obtain ⟨o5,len5,cap5,he5,hl5,hc5,hm5,hm6⟩:=hrs
     simp only[Value.slice.injEq] at he5
     obtain ⟨rfl,rfl,rfl⟩:=he5
     obtain ⟨bb,off,k',n',d',s',l',o',len',cap',ho,hxe,e0,e1,e2,e3,e4,er⟩:=zat hm6 (Below.refl _ (hide wr (LoE W3.heap.size E))) hx9
     subst ho hxe
     replace e0:=(zaa e0).2
     replace e1:=(zaa e1).2
     replace e2:=(zaa e2).2
     replace e3:=(zaa e3).2
     replace e4:=(zaa e4).2
     have hil:i<len3:=by have:=HLN.out;omega
     have ER:=zh er
     have HX9:=zh hx9
     clear hpb hgr htn hbx hbe hrz hch hm6 er hx9 hl5
     go_wp2_with fail
     go_region
     all_goals go_wp2_with fail
     all_goals go_roundg (i+1)
     case measure=>omega
     case rel=>
      refine ⟨i,rfl,by omega,rfl,TailR.drew (zh ⟨Dat.pair (.mk k' n' d' s' l') z,6,0,0,⟨#[]⟩,some ⟨wr.heap.size,0,none⟩,2,2,?_,?_,?_,?_,(HBE.out.set _ _ _ _ _).alloc _,?_,?_⟩)⟩
      ·exact BoxL.alloc ((zam _ _ _ _ _ _ _ (Ne.symm hnb)).trans HPB.out) _
      ·exact HGR.out.shown ((Shown.five wr (S:=LoE W3.heap.size E) (.inr rfl) _ _ _ _ _).trans (Shown.below (Below.one _ _))) (by simp)
      ·exact zbc HTN.out (((zag _ _ _ _ _ _ _ _ (Nat.le_of_lt hEl))).trans (qzB.alloc (by rw[zan];omega) _))
      ·exact (show Box5 (set5 wr E _ _ _ _ _) w.heap.size 26 (.int .i64 0) (.int .i64 0) (.int .i64 0) (.string ⟨#[]⟩) (.slice none 0 0) from (zam _ _ _ _ _ _ _ (by omega)).trans HBX.out).alloc _
      ·exact zc5 (W:=wr) (S:=LoE W3.heap.size E) (B:=E) (.inr rfl) (fun q hq=>by rcases hq with hq | hq<;>omega) ER.out HRZ.out _
      ·rw[<-HCH.out,List.take_add_one,HX9.out];simp
    ·obtain rfl:j=0:=by omega
     obtain ⟨v0,v1,v2,v3,v4⟩:=hbx.cells
     obtain ⟨y0,y1,y2,y3,y4⟩:=hbx.free
     have gl3:=hbx.lt
     clear hpb hgr htn hbx hbe hrz hch
     go_wp2_with fail
     have bN:=HBX.out.set (.int .i64 ek) (.int .i64 en) (.int .i64 ed) (.string es) (.slice eo el ec)
     obtain ⟨r0,r1,r2,r3,r4⟩:=bN.cells
     refine bodyPost_ret (v:=.agg #[.int .i64 ek,.int .i64 en,.int .i64 ed,.string es,.slice eo el ec]) (by simp[results,results35,go_sem,r0,r1,r2,r3,r4]) rfl ?_
     rw[HD.out]
     have hfm:=HF.out.map Rd.chain
     rw[show Rd.chain (l0,y)=z from HCH.out.symm] at hfm
     refine ⟨z,ek,en,ed,es,eo,el,ec,a9,m9,rfl,HRZ.out.shown ((Shown.five wr (S:=LoE W3.heap.size E) (.inl hW3) _ _ _ _ _).trans (Shown.less _ fun q _ hq=>.inl (by unfold Lo at hq;omega))) (by rw[zan];exact qzL),?_,zbc HTN.out (zag _ _ _ _ _ _ _ _ qzL),hfm⟩
     exact (zam _ _ _ _ _ _ _ (Ne.symm hne)).trans HPB.out
  rw[decide_eq_false h40] at q40
  rw[if_neg h40] at HD0
  have HD:=zh HD0
  clear HD0 h34 h39 h35 h40
  go_enter func35,ntmps35
  go_upto_region 1 with fail
  rw[HW0.out]
  go_upto_region 2 with (first | (go_at_call 34;refine HC.out.mono ?_;rintro e' w1 ⟨rfl,hr1,ht1⟩;have c0:=hr1.cell 0 rfl;have c1:=hr1.cell 1 rfl;have hl:=hr1.lt;have HP9:=zh hr1;have HT:=zh ht1;clear hr1 ht1))
  go_quiet (fail)
  have hp1:RB (w1.drewN nq) b s k (-1):=RB.drewN HP9.out _
  have ht1:Turned (fun c=>c=b) w (w1.drewN nq):=HT0.out.next (HT.out.next (Turned.of_below (Below.selfN _ _)))
  have hb1:Box5 (w1.drewN nq) w.heap.size 26 (.int .i64 0) (.int .i64 0) (.int .i64 0) (.string ⟨#[]⟩) (.slice none 0 0):=(HT.out.block _ HB0.out.lt hne).trans HB0.out
  generalize w1.drewN nq=W1 at hp1 ht1 hb1 ⊢
  have HP1:=zh hp1
  have HT1:=zh ht1
  have HB1:=zh hb1
  have hl1:=hb1.lt
  clear hp1 ht1 hb1 c0 c1 hl
  have f1:=HP1.out.cell 1 rfl
  have fl:=HP1.out.lt
  go_wp2_with (first | (go_at_call 64;refine (HM.out _).mono ?_;rintro e' w5 ⟨rfl,rfl⟩) | (go_at_call 36;refine (zhS b s k (c::t) _ HP1.out _ HK.out).mono ?_;rintro e' w2 ⟨x,k9,n9,d9,s9,o9,len9,cap9,a9,m9,rfl,ji,hrb,ht2,hf⟩;have hb2:Box5 w2 w.heap.size 26 (.int .i64 0) (.int .i64 0) (.int .i64 0) (.string ⟨#[]⟩) (.slice none 0 0):=(ht2.block _ HB1.out.lt hne).trans HB1.out;obtain ⟨p0,p1,p2,p3,p4⟩:=hb2.cells;obtain ⟨z0,z1,z2,z3,z4⟩:=hb2.free;have pl:=hb2.lt;have HB2:=zh hb2;have HREP:=zh ji;have HRB2:=zh hrb;have HT2:=zh ht2;have HF2:=zh hf;clear hb2 ji hrb ht2 hf))
  have HR5:=zh (HB2.out.set (.int .i64 k9) (.int .i64 n9) (.int .i64 d9) (.string s9) (.slice o9 len9 cap9))
  obtain ⟨r0,r1,r2,r3,r4⟩:=HR5.out.cells
  refine bodyPost_ret (v:=.agg #[.int .i64 k9,.int .i64 n9,.int .i64 d9,.string s9,.slice o9 len9 cap9]) (by simp[results,results35,go_sem,r0,r1,r2,r3,r4]) rfl ?_
  rw[HD.out]
  exact zcY HT1.out hl1 hne HREP.out HRB2.out HT2.out HF2.out
end
end Go.Proofs.YtnbjhmafnigefaaGreatDoor
