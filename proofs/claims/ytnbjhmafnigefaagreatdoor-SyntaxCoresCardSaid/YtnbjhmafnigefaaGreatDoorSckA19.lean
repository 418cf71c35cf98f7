/- .. -/
import Derived.Deep.LoopGhost
import Derived.OwnWalk
import Derived.BigRegion
import Derived.Test.YtnbjhmafnigefaaGreatDoorSckA18
open Go.Proofs.Tryz
set_option maxRecDepth 100000
set_option maxHeartbeats 16000000
namespace Go.Proofs.YtnbjhmafnigefaaGreatDoor
section
open Go Go.RowKit
namespace Sy
open Dat
def coreK (C:Dat->Bool) (key:ByteArray) (t:List Dat):Bool:=
 if key=quoteB then (match t with | [_]=>true | _=>false)
 else if key=ifB then (match t with | [a,b,c]=>C a&&(C b&&C c) | _=>false)
 else if key=beginB then (match t with | []=>false | x::r=>(x::r).all C)
 else if key=lambdaB then (match t with | [f,b]=>formals f&&C b | _=>false)
 else if key=setB then (match t with | [x,v]=>isVar x&&C v | _=>false)
 else if key=letrecB∨key=letrecSB then (match t with
  | [x,b]=>(match binds x with
   | some p=>distinct p.1&&(p.2++[b]).all C
   | none=>false)
  | _=>false)
 else false
def coreF (C:Dat->Bool) (x:Dat):Bool:=
 if x.kind=2 then isVar x
 else match (split x).1 with
  | []=>false
  | h::t=>if (split x).2.kind=4 then
    (if h.kind=2∧keyword h.s=true then coreK C h.s t else (h::t).all C)
   else false
def core:Nat->Dat->Bool
 | 0,_=>false
 | f+1,x=>coreF (core f) x
def isCore (x:Dat):Bool:=core (Dat.all x) x
theorem zcS {C C':Dat->Bool}:∀{l:List Dat},(∀y∈l,C y=C' y)->l.all C=l.all C'
 | [],_=>rfl
 | x::l,h=>by
  rw[List.all_cons,List.all_cons,h x (by simp),zcS fun y hy=>h y (List.mem_cons_of_mem _ hy)]
theorem zg0 {C C':Dat->Bool} (key:ByteArray) (t:List Dat) (n:Nat) (ht:∀y∈t,tidy y=true) (hw:wt t<=n) (h:∀y,tidy y=true->Dat.all y<n->C y=C' y):coreK C key t=coreK C' key t:=by
 have hm:∀y∈t,C y=C' y:=fun y hy=>h y (ht y hy) (by have:=wt_mem hy;omega)
 unfold coreK
 split
 ·rfl
 split
 ·split
  ·rename_i a b c
   rw[hm a (by simp),hm b (by simp),hm c (by simp)]
  ·rfl
 split
 ·split
  ·rfl
  ·exact zcS hm
 split
 ·split
  ·rename_i f b
   rw[hm b (by simp)]
  ·rfl
 split
 ·split
  ·rename_i x v
   rw[hm v (by simp)]
  ·rfl
 split
 ·split
  ·rename_i x b
   split
   ·rename_i p hp
    obtain ⟨h1,h2,h3,_⟩:=zbL (ns:=p.1) (vs:=p.2) hp (ht x (by simp))
    congr 1
    refine zcS fun y hy=>?_
    rcases List.mem_append.1 hy with hy | hy
    ·refine h y (h3 y hy) ?_
     have:=wt_mem hy
     simp only[wt] at hw
     omega
    ·rw[List.mem_singleton.1 hy];exact hm b (by simp)
   ·rfl
  ·rfl
 ·rfl
theorem zdI {C C':Dat->Bool} (x:Dat) (hx:tidy x=true) (h:∀y,tidy y=true->Dat.all y<Dat.all x->C y=C' y):coreF C x=coreF C' x:=by
 have h1:=zbh hx
 have h2:=(zaZ x hx).1
 unfold coreF
 split
 ·rfl
 ·split
  ·rfl
  ·rename_i a t hsp
   rw[hsp] at h1 h2
   split
   ·split
    ·simp only[wt] at h1
     exact zg0 a.s t (Dat.all x) (fun y hy=>h2 y (List.mem_cons_of_mem _ hy)) (by omega) h
    ·exact zcS fun y hy=>h y (h2 y hy) (by have:=wt_mem hy;omega)
   ·rfl
theorem zgl:∀(f g:Nat) (x:Dat),tidy x=true->Dat.all x<=f->Dat.all x<=g->core f x=core g x
 | 0,_,x,_,h,_=>by have:=zbf x;omega
 | _+1,0,x,_,_,h=>by have:=zbf x;omega
 | f+1,g+1,x,hx,h1,h2=>by
  show coreF (core f) x=coreF (core g) x
  exact zdI x hx fun y hy hl=>zgl f g y hy (by omega) (by omega)
theorem zgv (x:Dat) (hx:tidy x=true):isCore x=coreF isCore x:=by
 unfold isCore
 obtain ⟨n,hn⟩:∃n,Dat.all x=n+1:=⟨Dat.all x-1,by have:=zbf x;omega⟩
 rw[hn]
 show coreF (core n) x=_
 exact zdI x hx fun y hy hl=>zgl n (Dat.all y) y hy (by omega) qzL
end Sy
end
section
open Go Go.RowKit
namespace Sy
def toldL (r:Option (List Dat)):List UInt8:=match r with
 | none=>[]
 | some l=>match exp l with
  | none=>[63]
  | some y=>Dat.full y
end Sy
def strOf (l:List UInt8):Value:=.string ⟨l.toArray⟩
theorem zld (s:ByteArray) (hz:s.size<=9223372036854775807) (w:World) (hE:Env w) (hw:∀l,(readD s).1=some l->Sy.wt l<=100000∧∀y,Sy.exp l=some y->(Dat.text y false).length<=140737488355328) :
  Calls prog 16 #[.string s] w fun e w'=>e=.returned (strOf (Sy.toldL (readD s).1))∧Below w.heap.size w w':=by
 have hR:=zi8 s w hz
 unfold ReadPost at hR
 obtain ⟨q,hq⟩:∃q,(readD s).2=q:=⟨_,rfl⟩
 rw[hq] at hR
 cases hr:(readD s).1 with
 | none=>
  rw[hr] at hR
  have HR:=zh hR
  clear hR hr hw hE hq
  go_enter func16,ntmps16
  go_wp2_with (first | (go_at_call 13;refine HR.out.mono ?_;rintro e' w1 ⟨v,rfl, -,⟨o,len,cap,rfl⟩,hb1⟩))
  go_ret
  exact ⟨rfl,hb1⟩
 | some l=>
  rw[hr] at hR
  obtain ⟨h1,h2⟩:=hw l hr
  have hX:∀(W:World) (sl:Value),Below w.heap.size w W->RepS W W.heap.size l sl->Calls prog 10 #[sl] W (ExpPost (Sy.exp l) W):=fun W sl hb hv=>zk4 l sl W hv (zcJ hE hb) h1
  have HR:=zh hR
  have HE:=zh hE
  clear hR hr hw hE hq h1
  cases hx:Sy.exp l with
  | none=>
   have HX:=zh (show ∀(W:World) (sl:Value),Below w.heap.size w W->RepS W W.heap.size l sl->Calls prog 10 #[sl] W (fun e w'=>Below W.heap.size W w'∧e=.returned (.tuple #[.agg #[.int .i64 0,.int .i64 0,.int .i64 0,.string ⟨#[]⟩,.slice none 0 0],.int .i64 3])) from fun W sl hb hv=>(hX W sl hb hv).mono fun e w' h=>by rw[hx] at h;exact h)
   have HT:=zh (show Sy.toldL (some l)=[63] from by show (match Sy.exp l with | none=>[63] | some y=>Dat.full y)=[63];rw[hx])
   clear hX hx h2
   rw[HT.out]
   go_enter func16,ntmps16
   go_wp2_with (first | (go_at_call 13;refine HR.out.mono ?_;rintro e' w1 ⟨v,rfl,hv1,⟨o,len,cap,rfl⟩,hb1⟩;have HV1:=zh hv1;have HB1:=zh hb1;clear hv1 hb1) | (go_at_call 10;refine (HX.out w1 _ HB1.out HV1.out).mono ?_;rintro e' w2 ⟨hb2,rfl⟩))
   go_ret
   exact ⟨rfl,Below.next (Below.next HB1.out hb2) (Below.one _ _)⟩
  | some y=>
   have HX:=zh (show ∀(W:World) (sl:Value),Below w.heap.size w W->RepS W W.heap.size l sl->Calls prog 10 #[sl] W (fun e w'=>Below W.heap.size W w'∧∃k n d s o len cap,e=.returned (.tuple #[.agg #[.int .i64 k,.int .i64 n,.int .i64 d,.string s,.slice o len cap],.int .i64 0])∧RepD w' w'.heap.size y (.agg #[.int .i64 k,.int .i64 n,.int .i64 d,.string s,.slice o len cap])) from fun W sl hb hv=>(hX W sl hb hv).mono fun e w' h=>by
    rw[hx] at h
    obtain ⟨hb',v,rfl,hr'⟩:=h
    obtain ⟨k,n,d,s',o,len,cap,rfl⟩:=zae hr'
    exact ⟨hb',k,n,d,s',o,len,cap,rfl,hr'⟩)
   have HT:=zh (show Sy.toldL (some l)=Dat.full y from by show (match Sy.exp l with | none=>[63] | some y=>Dat.full y)=_;rw[hx])
   have HL:=zh (h2 y hx)
   have HXT:=zh (fun (W:World) (v:Value) (hv:RepD W W.heap.size y v) (hb:Below w.heap.size w W)=>zjY y v W.heap.size W hv qzL (zcJ HE.out hb) (fun _=>h2 y hx))
   clear hX hx h2
   rw[HT.out]
   go_enter func16,ntmps16
   go_upto_region 5 with (first | (go_at_call 13;refine HR.out.mono ?_;rintro e' w1 ⟨v,rfl,hv1,⟨o,len,cap,rfl⟩,hb1⟩;have HV1:=zh hv1;have HB1:=zh hb1;clear hv1 hb1) | (go_at_call 10;refine (HX.out w1 _ HB1.out HV1.out).mono ?_;rintro e' w2 ⟨hb2,k7,n7,d7,s7,o7,len7,cap7,rfl,hr7⟩;have HR7:=zh hr7;have HB2:=zh hb2;clear hr7 hb2))
   obtain ⟨W3,hW3⟩:∃W3,w2.alloc (.cells #[.int .i64 k7,.int .i64 n7,.int .i64 d7,.string s7,.slice o7 len7 cap7] 26)=W3:=⟨_,rfl⟩
   have hb:Box5 W3 w2.heap.size 26 (.int .i64 k7) (.int .i64 n7) (.int .i64 d7) (.string s7) (.slice o7 len7 cap7):=by rw[<-hW3];exact Box5.new w2 _ _ _ _ _ _
   have hb3:Below w2.heap.size w2 W3:=by rw[<-hW3];exact Below.one _ _
   rw[hW3]
   obtain ⟨i0,i1,i2,i3,i4⟩:=hb.cells
   have il:=hb.lt
   have hbw:=Below.next (Below.next HB1.out HB2.out) hb3
   have HT3:=zh (HXT.out W3 _ ((HR7.out.kept hb3).wider hb3.size) hbw)
   have HB3:=zh hbw
   clear hb hb3 hW3 hbw
   go_wp2_with (first | (go_at_call 15;refine HT3.out.mono ?_;rintro e' w4 ⟨rfl,hb4⟩) | fail)
   go_ret
   exact ⟨rfl,Below.next HB3.out hb4⟩
end
section
open Go Go.RowKit
theorem zaz {h:Dat} {s:ByteArray} (hk:h.kind=2) (hs:h.s=s):Sy.isNm h s=true:=by
 unfold Sy.isNm
 rw[hk,hs]
 simp
theorem zab {h:Dat} {s:ByteArray} (hk:h.kind=2) (hs:h.s≠s):Sy.isNm h s=false:=by
 unfold Sy.isNm
 rw[hk]
 have:¬h.s.data.toList=s.data.toList:=fun e=>hs (by rw[<-Dat.of_toList h.s,e,Dat.of_toList])
 simpa using this
open Sy Dat in
theorem zj0 {C:Dat->Bool} {x hd:Dat} {t:List Dat} {v:Value} {w:World} (hin:CIn x hd t v w) (hh:hd.kind=2) (jf:Sy.keyword hd.s=true)
  (hC:∀y∈t,CoreAt C y) (htd:∀y∈t,tidy y=true) (hwt:wt t<=100000) (hB2:∀b∈t,∀ns vs,binds b=some (ns,vs)->∀y∈vs,CoreAt C y) :
  COut (coreK C hd.s t) v w:=by
 have hshp:∀y∈t,Dat.shaped y=true∧Dat.all y<=100000:=fun y hy=>⟨tidy_shaped y (htd y hy),by have:=wt_mem hy;omega⟩
 unfold coreK
 split
 ·rename_i e0
  split
  ·exact zf8 (_C:=C) hin hh jf (zaz hh e0)
  ·rename_i hne
   exact zgw (_C:=C) hin hh jf (zaz hh e0) (fun hl=>by
    match t,hl with
    | [y],_=>exact hne y rfl)
 rename_i e0
 split
 ·rename_i e1
  split
  ·rename_i a b c
   have:=zj7 (C:=C) hin hh jf (zab hh e0) (zaz hh e1) hC
   simpa[List.all_cons] using this
  ·rename_i hne
   exact zjV (_C:=C) hin hh jf (zab hh e0) (zaz hh e1) (fun hl=>by
    match t,hl with
    | [a,b,c],_=>exact hne a b c rfl)
 rename_i e1
 split
 ·rename_i e2
  split
  ·exact zgh (_C:=C) hin hh jf (zab hh e0) (zab hh e1) (zaz hh e2)
  ·exact zgL (C:=C) hin hh jf (zab hh e0) (zab hh e1) (zaz hh e2) hC
 rename_i e2
 split
 ·rename_i e3
  split
  ·rename_i f b
   have hf:=hshp f (by simp)
   have hCb:∀c∈[b],CoreAt C c:=fun c hc=>hC c (by rw[List.mem_singleton.1 hc];simp)
   cases hfo:formals f with
   | true=>
    have:=zgn (C:=C) hin hh jf (zab hh e0) (zab hh e1) (zab hh e2) (zaz hh e3) hCb hf.1 hf.2 hfo
    simpa[List.all_cons] using this
   | false=>exact ze9 (_C:=C) hin hh jf (zab hh e0) (zab hh e1) (zab hh e2) (zaz hh e3) hf.1 hf.2 hfo
  ·rename_i hne
   match t,hin,hne with
   | [],hin,_=>exact ze4 (_C:=C) hin hh jf (zab hh e0) (zab hh e1) (zab hh e2) (zaz hh e3)
   | y::r,hin,hne=>exact zfa (_C:=C) hin hh jf (zab hh e0) (zab hh e1) (zab hh e2) (zaz hh e3) (fun hl=>by
    match r,hl with
    | [b],_=>exact hne y b rfl)
 rename_i e3
 split
 ·rename_i e4
  split
  ·rename_i f b
   have hCb:∀c∈[b],CoreAt C c:=fun c hc=>hC c (by rw[List.mem_singleton.1 hc];simp)
   cases hfo:Sy.isVar f with
   | true=>
    have:=zjF (C:=C) hin hh jf (zab hh e0) (zab hh e1) (zab hh e2) (zab hh e3) (zaz hh e4) hCb hfo
    simpa[List.all_cons] using this
   | false=>exact zh6 (_C:=C) hin hh jf (zab hh e0) (zab hh e1) (zab hh e2) (zab hh e3) (zaz hh e4) hfo
  ·rename_i hne
   match t,hin,hne with
   | [],hin,_=>exact zif (_C:=C) hin hh jf (zab hh e0) (zab hh e1) (zab hh e2) (zab hh e3) (zaz hh e4)
   | y::r,hin,hne=>exact zh3 (_C:=C) hin hh jf (zab hh e0) (zab hh e1) (zab hh e2) (zab hh e3) (zaz hh e4) (fun hl=>by
    match r,hl with
    | [b],_=>exact hne y b rfl)
 rename_i e4
 by_cases e5:hd.s=letrecB
 ·rw[if_pos (.inl e5)]
  split
  ·rename_i f b
   have hf:=hshp f (by simp)
   split
   ·rename_i p hp
    obtain ⟨ns,vs⟩:=p
    have hCb:∀c∈vs++[b],CoreAt C c:=fun c hc=>by
     rcases List.mem_append.1 hc with hc | hc
     ·exact hB2 f (by simp) ns vs hp c hc
     ·exact hC c (by rw[List.mem_singleton.1 hc];simp)
    obtain ⟨hbw,_,_,_⟩:=zbL hp (htd f (by simp))
    have hnl:ns.length<=1000000:=by have:=wt_len ns;omega
    cases hdi:Sy.distinct ns with
    | true=>
     have:=ze7 (C:=C) hin hh jf (zab hh e0) (zab hh e1) (zab hh e2) (zab hh e3) (zab hh e4) (zaz hh e5) hCb hf.1 hf.2 hp hdi hnl
     simpa only[Bool.true_and] using this
    | false=>exact zfz (_C:=C) hin hh jf (zab hh e0) (zab hh e1) (zab hh e2) (zab hh e3) (zab hh e4) (zaz hh e5) hf.1 hf.2 hp hdi hnl
   ·rename_i hp
    exact zfe (_C:=C) hin hh jf (zab hh e0) (zab hh e1) (zab hh e2) (zab hh e3) (zab hh e4) (zaz hh e5) hf.1 hf.2 hp
  ·rename_i hne
   exact ze6 (_C:=C) hin hh jf (zab hh e0) (zab hh e1) (zab hh e2) (zab hh e3) (zab hh e4) (zaz hh e5) (fun hl=>by
    match t,hl with
    | [a,b],_=>exact hne a b rfl)
 by_cases e6:hd.s=letrecSB
 ·rw[if_pos (.inr e6)]
  split
  ·rename_i f b
   have hf:=hshp f (by simp)
   split
   ·rename_i p hp
    obtain ⟨ns,vs⟩:=p
    have hCb:∀c∈vs++[b],CoreAt C c:=fun c hc=>by
     rcases List.mem_append.1 hc with hc | hc
     ·exact hB2 f (by simp) ns vs hp c hc
     ·exact hC c (by rw[List.mem_singleton.1 hc];simp)
    obtain ⟨hbw,_,_,_⟩:=zbL hp (htd f (by simp))
    have hnl:ns.length<=1000000:=by have:=wt_len ns;omega
    cases hdi:Sy.distinct ns with
    | true=>
     have:=zeu (C:=C) hin hh jf (zab hh e0) (zab hh e1) (zab hh e2) (zab hh e3) (zab hh e4) (zab hh e5) (zaz hh e6) hCb hf.1 hf.2 hp hdi hnl
     simpa only[Bool.true_and] using this
    | false=>exact zej (_C:=C) hin hh jf (zab hh e0) (zab hh e1) (zab hh e2) (zab hh e3) (zab hh e4) (zab hh e5) (zaz hh e6) hf.1 hf.2 hp hdi hnl
   ·rename_i hp
    exact zev (_C:=C) hin hh jf (zab hh e0) (zab hh e1) (zab hh e2) (zab hh e3) (zab hh e4) (zab hh e5) (zaz hh e6) hf.1 hf.2 hp
  ·rename_i hne
   exact zem (_C:=C) hin hh jf (zab hh e0) (zab hh e1) (zab hh e2) (zab hh e3) (zab hh e4) (zab hh e5) (zaz hh e6) (fun hl=>by
    match t,hl with
    | [a,b],_=>exact hne a b rfl)
 rw[if_neg (fun h=>h.elim e5 e6)]
 exact zha (_C:=C) hin hh jf (zab hh e0) (zab hh e1) (zab hh e2) (zab hh e3) (zab hh e4) (zab hh e5) (zab hh e6)
open Sy Dat in
theorem zf0:∀(n:Nat) (x:Dat),Dat.all x<=n->tidy x=true->n<=100000->CoreAt isCore x
 | 0,x,h,_,_=>by have:=zbf x;omega
 | n+1,x,h,ht,hn=>fun v B w hv hB=>by
  have hsh:=tidy_shaped x ht
  have hal:Dat.all x<=100000:=by omega
  have ih:∀y,tidy y=true->Dat.all y<Dat.all x->CoreAt isCore y:=fun y hy hl=>zf0 n y (by omega) hy (by omega)
  have h1:=zbh ht
  have h2:=(zaZ x ht).1
  rw[zgv x ht]
  unfold coreF
  split
  ·rename_i hk
   exact zjT (_C:=isCore) hv hB hsh hal hk
  ·rename_i hk
   split
   ·rename_i hsp
    by_cases h4:(split x).2.kind=4
    ·exact zhm (_C:=isCore) hv hB hsh hal hk h4 hsp
    ·exact zeA (_C:=isCore) hv hB hsh hal hk h4
   ·rename_i hd t hsp
    rw[hsp] at h1 h2
    split
    ·rename_i h4
     split
     ·rename_i hkw
      simp only[wt] at h1
      have hg:=zbf hd
      refine zj0 ⟨⟨B,hv,hB⟩,hsh,hal,hk,h4,hsp⟩ hkw.1 hkw.2 (fun y hy=>ih y (h2 y (List.mem_cons_of_mem _ hy)) (by have:=wt_mem hy;omega)) (fun y hy=>h2 y (List.mem_cons_of_mem _ hy)) (by omega) (fun b hb ns vs hbv y hy=>?_)
      obtain ⟨g1,_,g3,_⟩:=zbL hbv (h2 b (List.mem_cons_of_mem _ hb))
      exact ih y (g3 y hy) (by have:=wt_mem hy;have:=wt_mem hb;omega)
     ·rename_i hkw
      have ihm:∀y∈hd::t,CoreAt isCore y:=fun y hy=>ih y (h2 y hy) (by have:=wt_mem hy;omega)
      by_cases hh:hd.kind=2
      ·exact zhs ⟨⟨B,hv,hB⟩,hsh,hal,hk,h4,hsp⟩ hh (by
        cases hq:keyword hd.s with
        | false=>rfl
        | true=>exact absurd ⟨hh,hq⟩ hkw) ihm
      ·exact zgT ⟨⟨B,hv,hB⟩,hsh,hal,hk,h4,hsp⟩ hh ihm
    ·rename_i h4
     exact zeA (_C:=isCore) hv hB hsh hal hk h4
theorem ziW (x:Dat) (v:Value) (B:Nat) (w:World) (hv:RepD w B x v) (hB:B<=w.heap.size) (hal:Dat.right x 0=true->Dat.all x<=100000) :
  Calls prog 18 #[v] w fun e w'=>e=.returned (.bool (Dat.right x 0&&Sy.isCore x))∧Below w.heap.size w w':=by
 obtain ⟨k,n,d,s,o,len,cap,rfl⟩:=zae hv
 obtain ⟨W0,hW0⟩:∃W0,w.alloc (.cells #[.int .i64 k,.int .i64 n,.int .i64 d,.string s,.slice o len cap] 26)=W0:=⟨_,rfl⟩
 have hb:Box5 W0 w.heap.size 26 (.int .i64 k) (.int .i64 n) (.int .i64 d) (.string s) (.slice o len cap):=by rw[<-hW0];exact Box5.new w _ _ _ _ _ _
 have hbl:Below w.heap.size w W0:=by rw[<-hW0];exact Below.one _ _
 have HBL:=zh hbl
 have hrt:=zcl x _ B W0 (hv.kept (hbl.mono hB)) (by have:=hbl.size;omega)
 have hkeep:∀W,Below W0.heap.size W0 W->Box5 W w.heap.size 26 (.int .i64 k) (.int .i64 n) (.int .i64 d) (.string s) (.slice o len cap):=fun W hW=>(hW.block _ hb.lt).trans hb
 have HKP:=zh hkeep
 have HCO:=zh (fun (hr:Dat.right x 0=true) (W:World) (hW:Below W0.heap.size W0 W)=>zf0 100000 x (hal hr) (Dat.right_tidy x 0 hr) qzL _ B W (hv.kept ((hbl.mono hB).trans (hW.mono (by have:=hbl.size;omega)))) (by have:=hbl.size;have:=hW.size;omega))
 obtain ⟨i0,i1,i2,i3,i4⟩:=hb.cells
 have il:=hb.lt
 have HRT:=zh hrt
 clear hv hb hbl hrt hkeep hB hal
 cases hr:Dat.right x 0 with
 | false=>
  rw[hr] at HRT
  clear hr HCO
  go_enter func18,ntmps18
  go_wp2_with (first | (go_at_call 26;refine HRT.out.mono ?_;rintro e' w1 ⟨rfl,hb1⟩))
  go_ret
  exact ⟨rfl,Below.next HBL.out hb1⟩
 | true=>
  rw[hr] at HRT
  have HCO:=zh (HCO.out hr)
  clear hr
  simp only[Bool.true_and]
  generalize Sy.isCore x=r at HCO ⊢
  go_enter func18,ntmps18
  go_wp2_with (first | (go_at_call 26;refine HRT.out.mono ?_;rintro e' w1 ⟨rfl,hb1⟩;have hk1:=HKP.out w1 hb1;obtain ⟨j0,j1,j2,j3,j4⟩:=hk1.cells;have jl:=hk1.lt;have HM1:=zh (HCO.out w1 hb1);have HB1:=zh hb1;clear hk1 hb1) | (go_at_call 40;refine HM1.out.mono ?_;rintro e' w2 ⟨rfl,hb2⟩))
  go_ret
  exact ⟨rfl,Below.next (Below.next HBL.out HB1.out) hb2⟩
end
section
open Go Go.RowKit
namespace Sy
def awB1:ByteArray:=⟨#[40,100,101,102,105,110,101,32,40,102,32,120,41,32,120,41,32,40,102,32,49,41]⟩
def awB2:ByteArray:=⟨#[40,108,101,116,32,40,40,120,32,49,41,41,32,40,111,114,32,120,32,50,41,41]⟩
def awB3:ByteArray:=⟨#[40,41]⟩
def sF:Dat:=sym ⟨#[102]⟩
def sX:Dat:=sym ⟨#[120]⟩
def sP1:Dat:=sym ⟨#[37,49]⟩
def nD (n:Int):Dat:=.mk 0 n 1 Dat.emptyB []
def awL1:List Dat:=[Dat.list [sym defineB,Dat.list [sF,sX],sX],Dat.list [sF,nD 1]]
def awL2:List Dat:=[Dat.list [sym letB,Dat.list [Dat.list [sX,nD 1]],Dat.list [sym orB,sX,nD 2]]]
def awY1:Dat:=form letrecSB [Dat.list [Dat.list [sF,form lambdaB [Dat.list [sX],sX]]],Dat.list [sF,const (nD 1)]]
def awY2:Dat:=Dat.list [form lambdaB [Dat.list [sX],Dat.list [form lambdaB [Dat.list [sP1],form ifB [sP1,sP1,const (nD 2)]],sX]],const (nD 1)]
theorem awA1:Rd.A awB1.data.toList=.ok awL1 []:=by rfl
theorem awA2:Rd.A awB2.data.toList=.ok awL2 []:=by rfl
theorem awA3:Rd.A awB3.data.toList=.ok [Dat.null] []:=by rfl
theorem awR1:(readD awB1).1=some awL1:=by rw[zdB (by decide) awA1]
theorem awR2:(readD awB2).1=some awL2:=by rw[zdB (by decide) awA2]
theorem awR3:(readD awB3).1=some [Dat.null]:=by rw[zdB (by decide) awA3]
theorem awE1:exp awL1=some awY1:=by kernel_rfl
theorem awE2:exp awL2=some awY2:=by kernel_rfl
theorem awE3:exp [Dat.null]=none:=by kernel_rfl
theorem zjz:Num.text 1 1=[49]:=by decide +kernel
theorem zlH:Num.text 2 1=[50]:=by decide +kernel
theorem awT1:Dat.text awY1 false=[40,108,101,116,114,101,99,42,32,40,40,102,32,40,108,97,109,98,100,97,32,40,120,41,32,120,41,41,41,32,40,102,32,40,113,117,111,116,101,32,49,41,41,41]:=by
 simp[awY1,sF,sX,nD,form,sym,const,letrecSB,lambdaB,Dat.list,Dat.pair,Dat.null,Dat.text,Dat.textP,Dat.textA,zjz]
theorem awT2:Dat.text awY2 false=[40,40,108,97,109,98,100,97,32,40,120,41,32,40,40,108,97,109,98,100,97,32,40,37,49,41,32,40,105,102,32,37,49,32,37,49,32,40,113,117,111,116,101,32,50,41,41,41,32,120,41,41,32,40,113,117,111,116,101,32,49,41,41]:=by
 simp[awY2,sP1,sX,nD,form,sym,const,ifB,lambdaB,Dat.list,Dat.pair,Dat.null,Dat.text,Dat.textP,Dat.textA,zjz,zlH]
theorem awG1:toldL (readD awB1).1=[40,108,101,116,114,101,99,42,32,40,40,102,32,40,108,97,109,98,100,97,32,40,120,41,32,120,41,41,41,32,40,102,32,40,113,117,111,116,101,32,49,41,41,41]:=by
 rw[awR1]
 show (match exp awL1 with | none=>[63] | some y=>Dat.full y)=_
 rw[awE1]
 show Dat.full awY1=_
 rw[Dat.full,if_pos (by decide +kernel),awT1]
theorem awG2:toldL (readD awB2).1=[40,40,108,97,109,98,100,97,32,40,120,41,32,40,40,108,97,109,98,100,97,32,40,37,49,41,32,40,105,102,32,37,49,32,37,49,32,40,113,117,111,116,101,32,50,41,41,41,32,120,41,41,32,40,113,117,111,116,101,32,49,41,41]:=by
 rw[awR2]
 show (match exp awL2 with | none=>[63] | some y=>Dat.full y)=_
 rw[awE2]
 show Dat.full awY2=_
 rw[Dat.full,if_pos (by decide +kernel),awT2]
theorem awG3:toldL (readD awB3).1=[63]:=by
 rw[awR3]
 show (match exp [Dat.null] with | none=>[63] | some y=>Dat.full y)=_
 rw[awE3]
end Sy
theorem ze1 (s:ByteArray) (hz:s.size<=1000) (l:List Dat) (r:Option Dat) (g:List UInt8) (h1:(readD s).1=some l) (h2:Sy.wt l<=100000) (h3:Sy.exp l=r) (h4:∀y,r=some y->(Dat.text y false).length<=1000) (h5:Sy.toldL (readD s).1=g) (w:World) (hE:Env w) :
  Calls prog 16 #[.string s] w fun e w'=>e=.returned (.string ⟨g.toArray⟩)∧Below w.heap.size w w':=by
 have:=zld s (by omega) w hE (fun l' hl=>by
  rw[h1] at hl
  obtain rfl:=Option.some.inj hl
  exact ⟨h2,fun y hy=>by have:=h4 y (by rw[<-h3];exact hy);omega⟩)
 rw[h5] at this
 exact this
theorem zig (w:World) (hE:Env w):Calls prog 8 #[] w fun e w'=>e=.returned (.bool true)∧Below w.heap.size w w':=by
 have T1:=zh (show ∀(W:World),Env W->Calls prog 16 #[.string ⟨#[40,100,101,102,105,110,101,32,40,102,32,120,41,32,120,41,32,40,102,32,49,41]⟩] W fun e w'=>e=.returned (.string ⟨#[40,108,101,116,114,101,99,42,32,40,40,102,32,40,108,97,109,98,100,97,32,40,120,41,32,120,41,41,41,32,40,102,32,40,113,117,111,116,101,32,49,41,41,41]⟩)∧Below W.heap.size W w' from fun W h=>ze1 Sy.awB1 (by decide) _ _ _ Sy.awR1 (by decide +kernel) Sy.awE1 (fun y hy=>by cases hy;rw[Sy.awT1];decide) Sy.awG1 W h)
 have T2:=zh (show ∀(W:World),Env W->Calls prog 16 #[.string ⟨#[40,108,101,116,32,40,40,120,32,49,41,41,32,40,111,114,32,120,32,50,41,41]⟩] W fun e w'=>e=.returned (.string ⟨#[40,40,108,97,109,98,100,97,32,40,120,41,32,40,40,108,97,109,98,100,97,32,40,37,49,41,32,40,105,102,32,37,49,32,37,49,32,40,113,117,111,116,101,32,50,41,41,41,32,120,41,41,32,40,113,117,111,116,101,32,49,41,41]⟩)∧Below W.heap.size W w' from fun W h=>ze1 Sy.awB2 (by decide) _ _ _ Sy.awR2 (by decide +kernel) Sy.awE2 (fun y hy=>by cases hy;rw[Sy.awT2];decide) Sy.awG2 W h)
 have T3:=zh (show ∀(W:World),Env W->Calls prog 16 #[.string ⟨#[40,41]⟩] W fun e w'=>e=.returned (.string ⟨#[63]⟩)∧Below W.heap.size W w' from fun W h=>ze1 Sy.awB3 (by decide) _ _ _ Sy.awR3 (by decide +kernel) Sy.awE3 (fun y hy=>by cases hy) Sy.awG3 W h)
 have HE:=zh hE
 clear hE
 go_enter func8,ntmps8
 go_wp2_with (first | (go_at_call 16;(with_reducible refine (T1.out _ HE.out).mono ?_);rintro e' w1 ⟨rfl,hb1⟩;have HB1:=zh hb1;have HE1:=zh (zcJ HE.out hb1);clear hb1) | (go_at_call 16;(with_reducible refine (T2.out _ HE1.out).mono ?_);rintro e' w2 ⟨rfl,hb2⟩;have HB2:=zh hb2;have HE2:=zh (zcJ HE1.out hb2);clear hb2) | (go_at_call 16;(with_reducible refine (T3.out _ HE2.out).mono ?_);rintro e' w3 ⟨rfl,hb3⟩) | fail)
 go_ret
 exact ⟨rfl,Below.next (Below.next HB1.out HB2.out) hb3⟩
end
section
open Go Go.RowKit
open Sy Dat in
theorem zjc {C:Dat->Bool} {x hd:Dat} {t:List Dat} {v:Value} {w:World} (hin:CIn x hd t v w) (hh:hd.kind=2) (jf:Sy.keyword hd.s=true)
  (hC:∀y∈t,RCoreAt C y) (htd:∀y∈t,tidy y=true) (hwt:wt t<=100000) (hB2:∀b∈t,∀ns vs,binds b=some (ns,vs)->∀y∈vs,RCoreAt C y) :
  ROut (coreK C hd.s t) v w:=by
 have hshp:∀y∈t,Dat.shaped y=true∧Dat.all y<=100000:=fun y hy=>⟨tidy_shaped y (htd y hy),by have:=wt_mem hy;omega⟩
 unfold coreK
 split
 ·rename_i e0
  split
  ·exact zfN (_C:=C) hin hh e0
  ·rename_i hne
   exact zf9 (_C:=C) hin hh e0 (fun hl=>by
    match t,hl with
    | [y],_=>exact hne y rfl)
 rename_i e0
 split
 ·rename_i e1
  split
  ·rename_i a b c
   have:=zjD (C:=C) hin hh e1 hC
   simpa[List.all_cons] using this
  ·rename_i hne
   exact zj8 (_C:=C) hin hh e1 (fun hl=>by
    match t,hl with
    | [a,b,c],_=>exact hne a b c rfl)
 rename_i e1
 split
 ·rename_i e2
  split
  ·exact zfB (_C:=C) hin hh e2
  ·exact zhf (C:=C) hin hh e2 hC
 rename_i e2
 split
 ·rename_i e3
  split
  ·rename_i f b
   have hf:=hshp f (by simp)
   have hCb:∀c∈[b],RCoreAt C c:=fun c hc=>hC c (by rw[List.mem_singleton.1 hc];simp)
   cases hfo:formals f with
   | true=>
    have:=zgr (C:=C) hin hh e3 hCb hf.1 hf.2 hfo
    simpa[List.all_cons] using this
   | false=>exact zfg (_C:=C) hin hh e3 hf.1 hf.2 hfo
  ·rename_i hne
   exact zfA (_C:=C) hin hh e3 (fun hl=>by
    match t,hl with
    | [a,b],_=>exact hne a b rfl)
 rename_i e3
 split
 ·rename_i e4
  split
  ·rename_i f b
   have hCb:∀c∈[b],RCoreAt C c:=fun c hc=>hC c (by rw[List.mem_singleton.1 hc];simp)
   cases hfo:Sy.isVar f with
   | true=>
    have:=zi0 (C:=C) hin hh e4 hCb hfo
    simpa[List.all_cons] using this
   | false=>exact zid (_C:=C) hin hh e4 hfo
  ·rename_i hne
   exact zh0 (_C:=C) hin hh e4 (fun hl=>by
    match t,hl with
    | [a,b],_=>exact hne a b rfl)
 rename_i e4
 by_cases e5:hd.s=letrecB
 ·rw[if_pos (.inl e5)]
  split
  ·rename_i f b
   have hf:=hshp f (by simp)
   split
   ·rename_i p hp
    obtain ⟨ns,vs⟩:=p
    have hCb:∀c∈vs++[b],RCoreAt C c:=fun c hc=>by
     rcases List.mem_append.1 hc with hc | hc
     ·exact hB2 f (by simp) ns vs hp c hc
     ·exact hC c (by rw[List.mem_singleton.1 hc];simp)
    obtain ⟨hbw,_,_,_⟩:=zbL hp (htd f (by simp))
    have hnl:ns.length<=1000000:=by have:=wt_len ns;omega
    cases hdi:Sy.distinct ns with
    | true=>
     have:=zfh (C:=C) hin hh e5 hCb hf.1 hf.2 hp hdi hnl
     simpa only[Bool.true_and] using this
    | false=>exact zfu (_C:=C) hin hh e5 hf.1 hf.2 hp hdi hnl
   ·rename_i hp
    exact zfi (_C:=C) hin hh e5 hf.1 hf.2 hp
  ·rename_i hne
   exact zfj (_C:=C) hin hh e5 (fun hl=>by
    match t,hl with
    | [a,b],_=>exact hne a b rfl)
 by_cases e6:hd.s=letrecSB
 ·rw[if_pos (.inr e6)]
  split
  ·rename_i f b
   have hf:=hshp f (by simp)
   split
   ·rename_i p hp
    obtain ⟨ns,vs⟩:=p
    have hCb:∀c∈vs++[b],RCoreAt C c:=fun c hc=>by
     rcases List.mem_append.1 hc with hc | hc
     ·exact hB2 f (by simp) ns vs hp c hc
     ·exact hC c (by rw[List.mem_singleton.1 hc];simp)
    obtain ⟨hbw,_,_,_⟩:=zbL hp (htd f (by simp))
    have hnl:ns.length<=1000000:=by have:=wt_len ns;omega
    cases hdi:Sy.distinct ns with
    | true=>
     have:=zex (C:=C) hin hh e6 hCb hf.1 hf.2 hp hdi hnl
     simpa only[Bool.true_and] using this
    | false=>exact zet (_C:=C) hin hh e6 hf.1 hf.2 hp hdi hnl
   ·rename_i hp
    exact zer (_C:=C) hin hh e6 hf.1 hf.2 hp
  ·rename_i hne
   exact zel (_C:=C) hin hh e6 (fun hl=>by
    match t,hl with
    | [a,b],_=>exact hne a b rfl)
 rw[if_neg (fun h=>h.elim e5 e6)]
 exact zg9 (_C:=C) hin hh jf e0 e1 e3 e4 e2 e5 e6
open Sy Dat in
theorem zfX:∀(n:Nat) (x:Dat),Dat.all x<=n->tidy x=true->n<=100000->RCoreAt isCore x
 | 0,x,h,_,_=>by have:=zbf x;omega
 | n+1,x,h,ht,hn=>fun v B w hv hB=>by
  have hsh:=tidy_shaped x ht
  have hal:Dat.all x<=100000:=by omega
  have ih:∀y,tidy y=true->Dat.all y<Dat.all x->RCoreAt isCore y:=fun y hy hl=>zfX n y (by omega) hy (by omega)
  have h1:=zbh ht
  have h2:=(zaZ x ht).1
  rw[zgv x ht]
  unfold coreF
  split
  ·rename_i hk
   exact zjL (_C:=isCore) hv hB hsh hal hk
  ·rename_i hk
   split
   ·rename_i hsp
    by_cases h4:(split x).2.kind=4
    ·exact zgS (_C:=isCore) hv hB hsh hal hk h4 hsp
    ·exact zeX (_C:=isCore) hv hB hsh hal hk h4
   ·rename_i hd t hsp
    rw[hsp] at h1 h2
    split
    ·rename_i h4
     split
     ·rename_i hkw
      simp only[wt] at h1
      have hg:=zbf hd
      refine zjc ⟨⟨B,hv,hB⟩,hsh,hal,hk,h4,hsp⟩ hkw.1 hkw.2 (fun y hy=>ih y (h2 y (List.mem_cons_of_mem _ hy)) (by have:=wt_mem hy;omega)) (fun y hy=>h2 y (List.mem_cons_of_mem _ hy)) (by omega) (fun b hb ns vs hbv y hy=>?_)
      obtain ⟨g1,_,g3,_⟩:=zbL hbv (h2 b (List.mem_cons_of_mem _ hb))
      exact ih y (g3 y hy) (by have:=wt_mem hy;have:=wt_mem hb;omega)
     ·rename_i hkw
      have ihm:∀y∈hd::t,RCoreAt isCore y:=fun y hy=>ih y (h2 y hy) (by have:=wt_mem hy;omega)
      by_cases hh:hd.kind=2
      ·exact zhl ⟨⟨B,hv,hB⟩,hsh,hal,hk,h4,hsp⟩ hh (by
        cases hq:keyword hd.s with
        | false=>rfl
        | true=>exact absurd ⟨hh,hq⟩ hkw) ihm
      ·exact zhk ⟨⟨B,hv,hB⟩,hsh,hal,hk,h4,hsp⟩ hh ihm
    ·rename_i h4
     exact zeX (_C:=isCore) hv hB hsh hal hk h4
theorem zi7 (x:Dat) (v:Value) (B:Nat) (w:World) (hv:RepD w B x v) (hB:B<=w.heap.size) (hal:Dat.right x 0=true->Dat.all x<=100000) :
  Calls prog 19 #[v] w fun e w'=>e=.returned (.bool (Dat.right x 0&&Sy.isCore x))∧Below w.heap.size w w':=by
 obtain ⟨k,n,d,s,o,len,cap,rfl⟩:=zae hv
 obtain ⟨W0,hW0⟩:∃W0,w.alloc (.cells #[.int .i64 k,.int .i64 n,.int .i64 d,.string s,.slice o len cap] 26)=W0:=⟨_,rfl⟩
 have hb:Box5 W0 w.heap.size 26 (.int .i64 k) (.int .i64 n) (.int .i64 d) (.string s) (.slice o len cap):=by rw[<-hW0];exact Box5.new w _ _ _ _ _ _
 have hbl:Below w.heap.size w W0:=by rw[<-hW0];exact Below.one _ _
 have HBL:=zh hbl
 have hrt:=zgy x _ B W0 _ rfl (hv.kept (hbl.mono hB)) (by have:=hbl.size;omega)
 have hkeep:∀W,Below W0.heap.size W0 W->Box5 W w.heap.size 26 (.int .i64 k) (.int .i64 n) (.int .i64 d) (.string s) (.slice o len cap):=fun W hW=>(hW.block _ hb.lt).trans hb
 have HKP:=zh hkeep
 have HCO:=zh (fun (hr:Dat.right x 0=true) (W:World) (hW:Below W0.heap.size W0 W)=>zfX 100000 x (hal hr) (Dat.right_tidy x 0 hr) qzL _ B W (hv.kept ((hbl.mono hB).trans (hW.mono (by have:=hbl.size;omega)))) (by have:=hbl.size;have:=hW.size;omega))
 obtain ⟨i0,i1,i2,i3,i4⟩:=hb.cells
 have il:=hb.lt
 have HRT:=zh hrt
 clear hv hb hbl hrt hkeep hB hal
 cases hr:Dat.right x 0 with
 | false=>
  rw[hr] at HRT
  clear hr HCO
  go_enter func19,ntmps19
  go_wp2_with (first | (go_at_call 31;refine HRT.out.mono ?_;rintro e' w1 ⟨rfl,hb1⟩))
  go_ret
  exact ⟨rfl,Below.next HBL.out hb1⟩
 | true=>
  rw[hr] at HRT
  have HCO:=zh (HCO.out hr)
  clear hr
  simp only[Bool.true_and]
  generalize Sy.isCore x=r at HCO ⊢
  go_enter func19,ntmps19
  go_wp2_with (first | (go_at_call 31;refine HRT.out.mono ?_;rintro e' w1 ⟨rfl,hb1⟩;have hk1:=HKP.out w1 hb1;obtain ⟨j0,j1,j2,j3,j4⟩:=hk1.cells;have jl:=hk1.lt;have HM1:=zh (HCO.out w1 hb1);have HB1:=zh hb1;clear hk1 hb1) | (go_at_call 41;refine HM1.out.mono ?_;rintro e' w2 ⟨rfl,hb2⟩))
  go_ret
  exact ⟨rfl,Below.next (Below.next HBL.out HB1.out) hb2⟩
end
section
open Go Go.RowKit
theorem zdy (x:Dat) (v:Value) (z:ByteArray) (w:World) (hv:RepD w w.heap.size x v) (hE:Env w) :
  Calls prog 6 #[v,.string z] w fun e w'=>e=.returned (.bool true)∧Below w.heap.size w w':=by
 obtain ⟨k,n,d,s,o,len,cap,rfl⟩:=zae hv
 have HV:=zh hv
 have HE:=zh hE
 clear hv hE
 have HU:=zh (Uno.refl w #[.int .i64 k,.int .i64 n,.int .i64 d,.string s,.slice o len cap] 26)
 obtain ⟨q,hq⟩:∃q,decide (0<=Dat.few x 1000)=q:=⟨_,rfl⟩
 have HQ:=zh hq
 have hal:q=true->Dat.all x<=1000:=fun h=>by
  rw[h,decide_eq_true_eq,Dat.few_iff] at hq
  omega
 have HAL:=zh hal
 obtain ⟨cx,hcx⟩:∃c,(Dat.right x 0&&Sy.isCore x)=c:=⟨_,rfl⟩
 obtain ⟨kz,hkz⟩:∃c,Sy.keyword z=c:=⟨_,rfl⟩
 have HCX:=zh hcx
 have HKZ:=zh hkz
 clear hq hal hcx hkz
 go_enter func6,ntmps6
 go_wp2_with fail
 refine (zig _ (zcJ HE.out HU.out.below)).mono ?_
 rintro e' w1 ⟨rfl,hb1⟩
 have HU1:=zh (HU.out.next hb1)
 have hs1:=HU1.out.size
 clear hb1 HU
 have p0:=HU1.out.cell 0 (v:=.int .i64 k) rfl
 have p1:=HU1.out.cell 1 (v:=.int .i64 n) rfl
 have p2:=HU1.out.cell 2 (v:=.int .i64 d) rfl
 have p3:=HU1.out.cell 3 (v:=.string s) rfl
 have p4:=HU1.out.cell 4 (v:=.slice o len cap) rfl
 cases q with
 | false=>
  go_wp2_with fail
  refine (zhF x _ 1000 w.heap.size _ (HV.out.kept HU1.out.below) (by omega) (by omega) (by omega)).mono ?_
  rw[HQ.out]
  rintro e' w2 ⟨rfl,hb2⟩
  go_wp2_with fail
  go_ret
  exact ⟨rfl,(HU1.out.next hb2).below⟩
 | true=>
  go_wp2_with fail
  refine (zhF x _ 1000 w.heap.size _ (HV.out.kept HU1.out.below) (by omega) (by omega) (by omega)).mono ?_
  rw[HQ.out]
  rintro e' w2 ⟨rfl,hb2⟩
  have HU2:=zh (HU1.out.next hb2)
  have hs2:=HU2.out.size
  clear hb2 HU1 p0 p1 p2 p3 p4 hs1
  have HD:=zh (HU2.out.drew)
  go_wp2_with fail
  refine zaQ (Uno w #[.int .i64 k,.int .i64 n,.int .i64 d,.string s,.slice o len cap] 26) 15 (by kernel_rfl) (by kernel_rfl) HD.out ?_
  intro T _ W HW HW2
  have HWH:=zh HW
  have hB:∀t,Below w.heap.size w (W t):=fun t=>(HW t).below
  have hsz:∀t,w.heap.size<=(W t).heap.size:=fun t=>(hB t).size
  have hcl:∀t w',Below (W t).heap.size (W t) w'->∃t',w'=W t':=fun t w' hb=>HW2 _ ((HW t).next hb)
  have e0:=fun t=>(HW t).cell 0 (v:=.int .i64 k) rfl
  have e1:=fun t=>(HW t).cell 1 (v:=.int .i64 n) rfl
  have e2:=fun t=>(HW t).cell 2 (v:=.int .i64 d) rfl
  have e3:=fun t=>(HW t).cell 3 (v:=.string s) rfl
  have e4:=fun t=>(HW t).cell 4 (v:=.slice o len cap) rfl
  have c1:∀t,Calls prog 18 #[.agg #[.int .i64 k,.int .i64 n,.int .i64 d,.string s,.slice o len cap]] (W t) fun e w'=>e=.returned (.bool cx)∧∃t',w'=W t':=fun t=>
   (ziW x _ w.heap.size (W t) (HV.out.kept (hB t)) (hsz t) (fun _=>by have:=HAL.out trivial;omega)).mono fun e w' h=>⟨by rw[h.1,HCX.out],hcl t w' h.2⟩
  have c2:∀t,Calls prog 19 #[.agg #[.int .i64 k,.int .i64 n,.int .i64 d,.string s,.slice o len cap]] (W t) fun e w'=>e=.returned (.bool cx)∧∃t',w'=W t':=fun t=>
   (zi7 x _ w.heap.size (W t) (HV.out.kept (hB t)) (hsz t) (fun _=>by have:=HAL.out trivial;omega)).mono fun e w' h=>⟨by rw[h.1,HCX.out],hcl t w' h.2⟩
  have c3:∀t,Calls prog 20 #[.string z] (W t) fun e w'=>e=.returned (.bool kz)∧∃t',w'=W t':=fun t=>
   (zap z kz HKZ.out (W t)).mono fun e w' h=>⟨h.1,t,h.2⟩
  have c4:∀t,Calls prog 21 #[.string z] (W t) fun e w'=>e=.returned (.bool kz)∧∃t',w'=W t':=fun t=>
   (zao z kz HKZ.out (W t)).mono fun e w' h=>⟨h.1,t,h.2⟩
  have H1:=zh c1
  have H2:=zh c2
  have H3:=zh c3
  have H4:=zh c4
  clear HW HW2 hB hsz hcl c1 c2 c3 c4
  simp only[List.take_succ_cons,List.take_zero,List.drop_succ_cons,List.drop_zero]
  cases cx<;>cases kz
  all_goals
   repeat (go_big_quiet_step (first
    | (go_at_call 18;exact H1.out _)
    | (go_at_call 19;exact H2.out _)
    | (go_at_call 20;exact H3.out _)
    | (go_at_call 21;exact H4.out _)
    | fail))
   refine wpQuiet_nil ?_
   intro t
   go_wp2
   go_ret
   exact ⟨rfl,(HWH.out t).below⟩
end
end Go.Proofs.YtnbjhmafnigefaaGreatDoor
