/- .. -/
import Derived.Test.YtnbjhmafnigefaaGreatDoorSmkA18
open Go.Proofs.Tryz
set_option maxRecDepth 100000
set_option maxHeartbeats 16000000
namespace Go.Proofs.YtnbjhmafnigefaaGreatDoor
section
open Go Go.RowKit
theorem zav {h:Dat} {s:ByteArray} (hk:h.kind=2) (hs:h.s=s):Sy.isNm h s=true:=by
 unfold Sy.isNm
 rw[hk,hs]
 simp
theorem zaa {h:Dat} {s:ByteArray} (hk:h.kind=2) (hs:h.s≠s):Sy.isNm h s=false:=by
 unfold Sy.isNm
 rw[hk]
 have:¬h.s.data.toList=s.data.toList:=fun e=>hs (by rw[←Dat.of_toList h.s,e,Dat.of_toList])
 simpa using this
open Sy Dat in
theorem zjX {C:Dat→Bool} {x hd:Dat} {t:List Dat} {v:Value} {w:World} (hin:CIn x hd t v w) (hh:hd.kind=2) (hkey:Sy.keyword hd.s=true)
  (hC:∀y∈t,CoreAt C y) (htd:∀y∈t,tidy y=true) (hwt:wt t≤100000) (hB2:∀b∈t,∀ns vs,binds b=some (ns,vs)→∀y∈vs,CoreAt C y) :
  COut (coreK C hd.s t) v w:=by
 have hshp:∀y∈t,Dat.shaped y=true∧Dat.all y≤100000:=fun y hy=>⟨tidy_shaped y (htd y hy),by have:=wt_mem hy;omega⟩
 unfold coreK
 split
 ·rename_i e0
  split
  ·exact zgz (C:=C) hin hh hkey (zav hh e0)
  ·rename_i hne
   exact zgo (C:=C) hin hh hkey (zav hh e0) (fun hl=>by
    match t,hl with
    | [y],_=>exact hne y rfl)
 rename_i e0
 split
 ·rename_i e1
  split
  ·rename_i a b c
   have:=zkl (C:=C) hin hh hkey (zaa hh e0) (zav hh e1) hC
   simpa[List.all_cons] using this
  ·rename_i hne
   exact zke (C:=C) hin hh hkey (zaa hh e0) (zav hh e1) (fun hl=>by
    match t,hl with
    | [a,b,c],_=>exact hne a b c rfl)
 rename_i e1
 split
 ·rename_i e2
  split
  ·exact zf9 (C:=C) hin hh hkey (zaa hh e0) (zaa hh e1) (zav hh e2)
  ·exact zhf (C:=C) hin hh hkey (zaa hh e0) (zaa hh e1) (zav hh e2) hC
 rename_i e2
 split
 ·rename_i e3
  split
  ·rename_i f b
   have hf:=hshp f (by simp)
   have hCb:∀c∈[b],CoreAt C c:=fun c hc=>hC c (by rw[List.mem_singleton.1 hc];simp)
   cases hfo:formals f with
   | true=>
    have:=zfX (C:=C) hin hh hkey (zaa hh e0) (zaa hh e1) (zaa hh e2) (zav hh e3) hCb hf.1 hf.2 hfo
    simpa[List.all_cons] using this
   | false=>exact zfs (C:=C) hin hh hkey (zaa hh e0) (zaa hh e1) (zaa hh e2) (zav hh e3) hf.1 hf.2 hfo
  ·rename_i hne
   match t,hin,hne with
   | [],hin,_=>exact zfi (C:=C) hin hh hkey (zaa hh e0) (zaa hh e1) (zaa hh e2) (zav hh e3)
   | y::r,hin,hne=>exact zfG (C:=C) hin hh hkey (zaa hh e0) (zaa hh e1) (zaa hh e2) (zav hh e3) (fun hl=>by
    match r,hl with
    | [b],_=>exact hne y b rfl)
 rename_i e3
 split
 ·rename_i e4
  split
  ·rename_i f b
   have hCb:∀c∈[b],CoreAt C c:=fun c hc=>hC c (by rw[List.mem_singleton.1 hc];simp)
   cases hfo:Sy.isVar f with
   | true=>
    have:=zku (C:=C) hin hh hkey (zaa hh e0) (zaa hh e1) (zaa hh e2) (zaa hh e3) (zav hh e4) hCb hfo
    simpa[List.all_cons] using this
   | false=>exact ziH (C:=C) hin hh hkey (zaa hh e0) (zaa hh e1) (zaa hh e2) (zaa hh e3) (zav hh e4) hfo
  ·rename_i hne
   match t,hin,hne with
   | [],hin,_=>exact zi6 (C:=C) hin hh hkey (zaa hh e0) (zaa hh e1) (zaa hh e2) (zaa hh e3) (zav hh e4)
   | y::r,hin,hne=>exact zi8 (C:=C) hin hh hkey (zaa hh e0) (zaa hh e1) (zaa hh e2) (zaa hh e3) (zav hh e4) (fun hl=>by
    match r,hl with
    | [b],_=>exact hne y b rfl)
 rename_i e4
 by_cases e5:hd.s=letrecB
 ·rw[if_pos (.inl e5)]
  split
  ·rename_i f b
   have hf:=hshp f (by simp)
   split
   ·rename_i p hp
    obtain ⟨ns,vs⟩:=p
    have hCb:∀c∈vs++[b],CoreAt C c:=fun c hc=>by
     rcases List.mem_append.1 hc with hc | hc
     ·exact hB2 f (by simp) ns vs hp c hc
     ·exact hC c (by rw[List.mem_singleton.1 hc];simp)
    obtain ⟨hbw,_,_,_⟩:=zcl hp (htd f (by simp))
    have hnl:ns.length≤1000000:=by have:=wt_len ns;omega
    cases hdi:Sy.distinct ns with
    | true=>
     have:=zfc (C:=C) hin hh hkey (zaa hh e0) (zaa hh e1) (zaa hh e2) (zaa hh e3) (zaa hh e4) (zav hh e5) hCb hf.1 hf.2 hp hdi hnl
     simpa only[Bool.true_and] using this
    | false=>exact zfz (C:=C) hin hh hkey (zaa hh e0) (zaa hh e1) (zaa hh e2) (zaa hh e3) (zaa hh e4) (zav hh e5) hf.1 hf.2 hp hdi hnl
   ·rename_i hp
    exact zfw (C:=C) hin hh hkey (zaa hh e0) (zaa hh e1) (zaa hh e2) (zaa hh e3) (zaa hh e4) (zav hh e5) hf.1 hf.2 hp
  ·rename_i hne
   exact zfK (C:=C) hin hh hkey (zaa hh e0) (zaa hh e1) (zaa hh e2) (zaa hh e3) (zaa hh e4) (zav hh e5) (fun hl=>by
    match t,hl with
    | [a,b],_=>exact hne a b rfl)
 by_cases e6:hd.s=letrecSB
 ·rw[if_pos (.inr e6)]
  split
  ·rename_i f b
   have hf:=hshp f (by simp)
   split
   ·rename_i p hp
    obtain ⟨ns,vs⟩:=p
    have hCb:∀c∈vs++[b],CoreAt C c:=fun c hc=>by
     rcases List.mem_append.1 hc with hc | hc
     ·exact hB2 f (by simp) ns vs hp c hc
     ·exact hC c (by rw[List.mem_singleton.1 hc];simp)
    obtain ⟨hbw,_,_,_⟩:=zcl hp (htd f (by simp))
    have hnl:ns.length≤1000000:=by have:=wt_len ns;omega
    cases hdi:Sy.distinct ns with
    | true=>
     have:=zeB (C:=C) hin hh hkey (zaa hh e0) (zaa hh e1) (zaa hh e2) (zaa hh e3) (zaa hh e4) (zaa hh e5) (zav hh e6) hCb hf.1 hf.2 hp hdi hnl
     simpa only[Bool.true_and] using this
    | false=>exact zeG (C:=C) hin hh hkey (zaa hh e0) (zaa hh e1) (zaa hh e2) (zaa hh e3) (zaa hh e4) (zaa hh e5) (zav hh e6) hf.1 hf.2 hp hdi hnl
   ·rename_i hp
    exact zeJ (C:=C) hin hh hkey (zaa hh e0) (zaa hh e1) (zaa hh e2) (zaa hh e3) (zaa hh e4) (zaa hh e5) (zav hh e6) hf.1 hf.2 hp
  ·rename_i hne
   exact zeH (C:=C) hin hh hkey (zaa hh e0) (zaa hh e1) (zaa hh e2) (zaa hh e3) (zaa hh e4) (zaa hh e5) (zav hh e6) (fun hl=>by
    match t,hl with
    | [a,b],_=>exact hne a b rfl)
 rw[if_neg (fun h=>h.elim e5 e6)]
 exact zhr (C:=C) hin hh hkey (zaa hh e0) (zaa hh e1) (zaa hh e2) (zaa hh e3) (zaa hh e4) (zaa hh e5) (zaa hh e6)
open Sy Dat in
theorem zgb:∀(n:Nat) (x:Dat),Dat.all x≤n→tidy x=true→n≤100000→CoreAt isCore x
 | 0,x,h,_,_=>by have:=za8 x;omega
 | n+1,x,h,ht,hn=>fun v B w hv hB=>by
  have hsh:=tidy_shaped x ht
  have hal:Dat.all x≤100000:=by omega
  have ih:∀y,tidy y=true→Dat.all y<Dat.all x→CoreAt isCore y:=fun y hy hl=>zgb n y (by omega) hy (by omega)
  have h1:=zbf ht
  have h2:=(zaW x ht).1
  rw[zbO x ht]
  unfold coreF
  split
  ·rename_i hk
   exact zjf (C:=isCore) hv hB hsh hal hk
  ·rename_i hk
   split
   ·rename_i hsp
    by_cases h4:(split x).2.kind=4
    ·exact zht (C:=isCore) hv hB hsh hal hk h4 hsp
    ·exact zeR (C:=isCore) hv hB hsh hal hk h4
   ·rename_i hd t hsp
    rw[hsp] at h1 h2
    split
    ·rename_i h4
     split
     ·rename_i hkw
      simp only[wt] at h1
      have hg:=za8 hd
      refine zjX ⟨⟨B,hv,hB⟩,hsh,hal,hk,h4,hsp⟩ hkw.1 hkw.2 (fun y hy=>ih y (h2 y (List.mem_cons_of_mem _ hy)) (by have:=wt_mem hy;omega)) (fun y hy=>h2 y (List.mem_cons_of_mem _ hy)) (by omega) (fun b hb ns vs hbv y hy=>?_)
      obtain ⟨g1,_,g3,_⟩:=zcl hbv (h2 b (List.mem_cons_of_mem _ hb))
      exact ih y (g3 y hy) (by have:=wt_mem hy;have:=wt_mem hb;omega)
     ·rename_i hkw
      have ihm:∀y∈hd::t,CoreAt isCore y:=fun y hy=>ih y (h2 y hy) (by have:=wt_mem hy;omega)
      by_cases hh:hd.kind=2
      ·exact zgS ⟨⟨B,hv,hB⟩,hsh,hal,hk,h4,hsp⟩ hh (by
        cases hq:keyword hd.s with
        | false=>rfl
        | true=>exact absurd ⟨hh,hq⟩ hkw) ihm
      ·exact zg0 ⟨⟨B,hv,hB⟩,hsh,hal,hk,h4,hsp⟩ hh ihm
    ·rename_i h4
     exact zeR (C:=isCore) hv hB hsh hal hk h4
theorem zky (x:Dat) (v:Value) (B:Nat) (w:World) (hv:RepD w B x v) (hB:B≤w.heap.size) (hal:Dat.right x 0=true→Dat.all x≤100000) :
  Calls prog 18 #[v] w fun e w'=>e=.returned (.bool (Dat.right x 0&&Sy.isCore x))∧Below w.heap.size w w':=by
 obtain ⟨k,n,d,s,o,len,cap,rfl⟩:=zae hv
 obtain ⟨W0,hW0⟩:∃W0,w.alloc (.cells #[.int .i64 k,.int .i64 n,.int .i64 d,.string s,.slice o len cap] 26)=W0:=⟨_,rfl⟩
 have hb:Box5 W0 w.heap.size 26 (.int .i64 k) (.int .i64 n) (.int .i64 d) (.string s) (.slice o len cap):=by rw[←hW0];exact Box5.new w _ _ _ _ _ _
 have hbl:Below w.heap.size w W0:=by rw[←hW0];exact Below.one _ _
 have HBL:=zh hbl
 have hrt:=zbz x _ B W0 (hv.kept (hbl.mono hB)) (by have:=hbl.size;omega)
 have hkeep:∀W,Below W0.heap.size W0 W→Box5 W w.heap.size 26 (.int .i64 k) (.int .i64 n) (.int .i64 d) (.string s) (.slice o len cap):=fun W hW=>(hW.block _ hb.lt).trans hb
 have HKP:=zh hkeep
 have HCO:=zh (fun (hr:Dat.right x 0=true) (W:World) (hW:Below W0.heap.size W0 W)=>zgb 100000 x (hal hr) (Dat.right_tidy x 0 hr) (Nat.le_refl _) _ B W (hv.kept ((hbl.mono hB).trans (hW.mono (by have:=hbl.size;omega)))) (by have:=hbl.size;have:=hW.size;omega))
 obtain ⟨i0,i1,i2,i3,i4⟩:=hb.cells
 have il:=hb.lt
 have HRT:=zh hrt
 clear hv hb hbl hrt hkeep hB hal
 cases hr:Dat.right x 0 with
 | false=>
  rw[hr] at HRT
  clear hr HCO
  go_enter func18,ntmps18
  go_wp2_with (first | (go_at_call 26;refine HRT.out.mono ?_;rintro e' w1 ⟨rfl,hb1⟩))
  go_ret
  exact ⟨rfl,Below.next HBL.out hb1⟩
 | true=>
  rw[hr] at HRT
  have HCO:=zh (HCO.out hr)
  clear hr
  simp only[Bool.true_and]
  generalize Sy.isCore x=r at HCO ⊢
  go_enter func18,ntmps18
  go_wp2_with (first | (go_at_call 26;refine HRT.out.mono ?_;rintro e' w1 ⟨rfl,hb1⟩;have hk1:=HKP.out w1 hb1;obtain ⟨j0,j1,j2,j3,j4⟩:=hk1.cells;have jl:=hk1.lt;have HM1:=zh (HCO.out w1 hb1);have HB1:=zh hb1;clear hk1 hb1) | (go_at_call 40;refine HM1.out.mono ?_;rintro e' w2 ⟨rfl,hb2⟩))
  go_ret
  exact ⟨rfl,Below.next (Below.next HBL.out HB1.out) hb2⟩
end
section
open Go Go.RowKit
namespace Dat
mutual
def low (M:Nat):Dat→Bool
 | mk _ _ _ s l=>decide (s.size≤M)&&lowL M l
def lowL (M:Nat):List Dat→Bool
 | []=>true
 | x::l=>low M x&&lowL M l
end
theorem zll {M:Nat} {l:List Dat}:lowL M l=true↔∀y∈l,low M y=true:=by
 induction l with
 | nil=>simp[lowL]
 | cons x l ih=>simp[lowL,ih]
theorem zff:(⟨#[]⟩:ByteArray).size=0:=rfl
theorem zcp {M:Nat}:∀{l:List Dat},(∀y∈l,low M y=true)→low M (list l)=true
 | [],_=>by simp[list,null,low,lowL,zff]
 | x::l,h=>by
  rw[show list (x::l)=pair x (list l) from rfl,pair]
  simp only[low,lowL,h x List.mem_cons_self,zcp (l:=l) fun y hy=>h y (List.mem_cons_of_mem _ hy),zff]
  simp
theorem zdI:∀l:List Dat,∀y∈l,bulk y≤bulkL l
 | [],y,hy=>by cases hy
 | x::l,y,hy=>by
  simp only[bulkL]
  rcases List.mem_cons.1 hy with rfl | hy
  ·omega
  ·have:=zdI l y hy
   omega
theorem zlc {M:Nat}:∀x:Dat,bulk x≤M→low M x=true:=by
 intro x
 induction x using Dat.ind with
 | h k n d s l ih=>
  intro h
  simp only[bulk] at h
  have key:=zdI
  simp only[low,Bool.and_eq_true,decide_eq_true_eq]
  exact ⟨by omega,zll.2 fun y hy=>ih y hy (by have:=key l y hy;omega)⟩
mutual
theorem zhK {M:Nat}:∀x:Dat,low M x=true→bulk x≤all x*(M+1)
 | mk k n d s l,h=>by
  simp only[low,Bool.and_eq_true,decide_eq_true_eq] at h
  have:=zgL l h.2
  simp only[bulk,all]
  rw[Nat.add_mul]
  omega
theorem zgL {M:Nat}:∀l:List Dat,lowL M l=true→bulkL l≤allL l*(M+1)
 | [],_=>by simp[bulkL]
 | x::l,h=>by
  simp only[lowL,Bool.and_eq_true] at h
  have h1:=zhK x h.1
  have h2:=zgL l h.2
  simp only[bulkL,allL]
  rw[Nat.add_mul]
  omega
end
theorem marked_text:∀(x:Dat) (deep:Nat) (tl:Bool),right x deep=true→marked x=true→(37:UInt8)∈text x tl:=by
 intro x
 induction x using Dat.ind with
 | h k n d s l ih=>
  intro deep tl h hm
  simp only[right,Bool.and_eq_true,decide_eq_true_eq] at h
  have hparts:=(zcm _ _).1 h.2.2
  rcases Dat.head_cases h.2.1 with ⟨rfl,h1,rfl,rfl⟩ | ⟨rfl,rfl,h1,rfl,rfl⟩ | ⟨rfl,rfl,rfl,h1,rfl⟩ | ⟨rfl,rfl,rfl,h1,rfl⟩ | ⟨rfl,rfl,rfl,rfl,rfl⟩ | ⟨rfl,rfl,rfl,rfl,rfl⟩ | ⟨rfl,rfl,rfl,rfl,a,b,rfl⟩ | ⟨rfl,rfl,rfl,rfl⟩
  ·simp[marked,markedL] at hm
  ·simp[marked,markedL] at hm
  ·simp only[marked,decide_true,Bool.true_and,markedL,Bool.or_false] at hm
   have h37:(37:UInt8)∈s.data.toList:=by simpa using hm
   cases tl<;>simp[text,textA,h37]
  ·simp[marked,markedL] at hm
  ·simp[marked,markedL] at hm
  ·simp[marked,markedL] at hm
  ·have h37:(37:UInt8)∈textP [a,b]:=by
    rw[textP]
    cases hma:marked a with
    | true=>exact List.mem_append_left _ (ih a (by simp) _ false (hparts a (by simp)) hma)
    | false=>
     have hmb:marked b=true:=by simpa[marked,markedL,hma] using hm
     exact List.mem_append_right _ (ih b (by simp) _ true (hparts b (by simp)) hmb)
   cases tl<;>simp[text,h37]
  ·have key:∀(l:List Dat) (first:Bool),(∀y∈l,marked y=true→(37:UInt8)∈text y false)→markedL l=true→(37:UInt8)∈textV l first:=fun l=>by
    induction l with
    | nil=>intro first _ hm;cases hm
    | cons x l ihl=>
     intro first hy hm
     rw[textV]
     cases hmx:marked x with
     | true=>exact List.mem_append_right _ (List.mem_append_left _ (hy x (by simp) hmx))
     | false=>
      rw[markedL,hmx,Bool.false_or] at hm
      exact List.mem_append_right _ (List.mem_append_right _ (ihl false (fun y h=>hy y (List.mem_cons_of_mem _ h)) hm))
   have h37:=key l true (fun y hy hmy=>ih y hy _ false (hparts y hy) hmy) (by simpa[marked] using hm)
   cases tl<;>simp[text,textA,h37]
end Dat
namespace Sy
open Dat
theorem zcq {M:Nat} {k:ByteArray} {t:List Dat} (hk:k.size≤M) (ht:∀y∈t,low M y=true):low M (form k t)=true:=
 zcp (List.forall_mem_cons.2 ⟨by simp[sym,low,lowL,hk],ht⟩)
theorem zmn {M:Nat} (hM:22≤M):Cl (fun x=>low M x=true) (fun x=>low M x=true) where
 split:=fun x=>by
  induction x using Dat.ind with
  | h k n d s l ih=>
   intro h
   by_cases hk:k=6∧∃a b,l=[a,b]
   ·obtain ⟨hk,a,b,rfl⟩:=hk
    rw[split_pair hk]
    simp only[low,lowL,Bool.and_eq_true,Bool.and_true] at h
    have i:=ih b (by simp) h.2.2
    exact ⟨List.forall_mem_cons.2 ⟨h.2.1,i.1⟩,i.2⟩
   ·have e:split (mk k n d s l)=([],mk k n d s l):=by
     by_cases h6:k=6
     ·match l,hk with
      | [],_=>rfl
      | [_],_=>rfl
      | [a,b],hk=>exact absurd ⟨h6,a,b,rfl⟩ hk
      | _::_::_::_,_=>rfl
     ·exact split_other h6
    rw[e]
    exact ⟨fun y hy=>by simp at hy,h⟩
 pair:=fun x a f hx hk hl=>by
  obtain ⟨k,n,d,s,l⟩:=x
  replace hl:l=[a,f]:=hl
  subst hl
  simp only[low,lowL,Bool.and_eq_true,Bool.and_true] at hx
  exact ⟨hx.2.1,hx.2.2⟩
 list:=fun l h=>zcp h
 fresh:=fun n hn=>⟨by
  have h:=Lib.itoa_length_le ((n+1:Nat):Int) (by omega) (by omega)
  have:(freshB (n+1)).size≤M:=by
   show (37::Lib.itoa ((n+1:Nat):Int)).toArray.size≤M
   simp only[List.size_toArray,List.length_cons]
   omega
  simp[freshD,sym,low,lowL,this],by unfold isVar freshD freshB sym;simp only[Dat.kind,Dat.s,zkc];rfl⟩
 eq:=by simp only[sym,low,lowL,Bool.and_true,decide_eq_true_eq];exact Nat.le_trans (show eqB.size≤22 by decide) hM
 leaf:=fun k n h=>by simp[low,lowL,Dat.emptyB,zff]
 const:=fun x hx=>zcq (Nat.le_trans (show quoteB.size≤22 by decide) hM) fun y hy=>by rw[List.mem_singleton.1 hy];exact hx
 var:=fun x hx _=>hx
 call:=fun x l hx hl=>zcp (List.forall_mem_cons.2 ⟨hx,hl⟩)
 cond:=fun a b c ha hb hc=>zcq (Nat.le_trans (show ifB.size≤22 by decide) hM) fun y hy=>by
  simp only[List.mem_cons,List.not_mem_nil,or_false] at hy
  rcases hy with rfl | rfl | rfl
  ·exact ha
  ·exact hb
  ·exact hc
 begin:=fun x l hx hl=>zcq (Nat.le_trans (show beginB.size≤22 by decide) hM) (List.forall_mem_cons.2 ⟨hx,hl⟩)
 lambda:=fun f b hf _ hb=>zcq (Nat.le_trans (show lambdaB.size≤22 by decide) hM) fun y hy=>by
  simp only[List.mem_cons,List.not_mem_nil,or_false] at hy
  rcases hy with rfl | rfl
  ·exact hf
  ·exact hb
 set:=fun x v hx _ hv=>zcq (Nat.le_trans (show setB.size≤22 by decide) hM) fun y hy=>by
  simp only[List.mem_cons,List.not_mem_nil,or_false] at hy
  rcases hy with rfl | rfl
  ·exact hx
  ·exact hv
 letrec:=fun k ns vs b hk hn _ hl hv hb=>zcq (by rcases hk with rfl | rfl;exact Nat.le_trans (show letrecB.size≤22 by decide) hM;exact Nat.le_trans (show letrecSB.size≤22 by decide) hM) fun y hy=>by
  simp only[List.mem_cons,List.not_mem_nil,or_false] at hy
  rcases hy with rfl | rfl
  ·refine zcp fun z hz=>?_
   obtain ⟨p,hp,q,hq,rfl⟩:=zdd hz
   refine zcp fun u hu=>?_
   simp only[List.mem_cons,List.not_mem_nil,or_false] at hu
   rcases hu with rfl | rfl
   ·exact hn _ hp
   ·exact hv _ hq
  ·exact hb
theorem exp_text {l:List Dat} (hw:wt l≤1000) (hb:bulkL l≤1048576) {y:Dat} (h:exp l=some y):(Dat.text y false).length≤140737488355328:=by
 obtain ⟨_,h2⟩:=exp_some (l:=l) (by omega)
 obtain ⟨_,h3,_,n,h4⟩:=h2 y h
 have key:=Dat.zdI
 have hl:=zh2 (zmn (M:=1048576) (by omega)) 100000 l (fun x hx=>zlc x (by have:=key l x hx;omega)) 0 y n h4
 have h5:=zhK y hl
 have h6:=zdO y false
 have h7:Dat.all y*(1048576+1)≤60015*(1048576+1):=Nat.mul_le_mul_right _ (by omega)
 omega
end Sy
theorem zly (l:List Dat) (sl:Value) (n:Int) (w:World) (hv:RepS w w.heap.size l sl) (h0:0≤n) (h1:n≤100000) (r:Bool) (hr:(decide ((l.length:Int)≤n)&&decide ((Dat.allL l:Int)≤n))=r) :
  Calls prog 9 #[sl,.int .i64 n] w fun e w'=>e=.returned (.bool r)∧Below w.heap.size w w':=by
 obtain ⟨q,hq⟩:∃q,decide ((Dat.allL l:Int)≤n)=q:=⟨_,rfl⟩
 have HF:=zh (zir l sl n w.heap.size w hv (Nat.le_refl _) h0 h1 q hq)
 obtain ⟨o,len,cap,rfl,hl,hcap,hmax,hc⟩:=hv
 rw[hq,←hl] at hr
 clear hq hl hc h0 h1
 cases hd:decide ((len:Int)≤n) with
 | false=>
  rw[hd,Bool.false_and] at hr
  subst hr
  go_enter func9,ntmps9
  go_wp2_with fail
  go_ret
  exact ⟨rfl,Below.refl _ _⟩
 | true=>
  rw[hd,Bool.true_and] at hr
  subst hr
  go_enter func9,ntmps9
  go_wp2_with (first | (go_at_call 23;refine HF.out.mono ?_;rintro e' w1 ⟨rfl,hb1⟩) | fail)
  go_ret
  exact ⟨rfl,hb1⟩
end
section
open Go Go.RowKit
namespace Dat
def fine (x:Dat):Prop:=∃deep,right x deep=true
theorem zbN {x:Dat} (h:fine x):tidy x=true:=by obtain ⟨d,h⟩:=h;exact right_tidy x d h
theorem zgD {s:ByteArray} (h:s.data.toList.isEmpty=true):s=⟨#[]⟩:=by
 obtain ⟨a⟩:=s
 simp at h
 rw[h]
theorem zkJ {k n d:Int} {s:ByteArray} {l:List Dat} (h:fine (mk k n d s l)) (hk:k=6):∃a b,mk k n d s l=pair a b∧fine a∧fine b:=by
 obtain ⟨e,h⟩:=h
 subst hk
 simp only[right,Bool.and_eq_true,head] at h
 obtain ⟨_,h1,h2⟩:=h
 simp at h1
 obtain ⟨rfl,rfl,h3,h4⟩:=h1
 match l,h4,h2 with
 | [a,b],_,h2=>
  simp only[rightL,Bool.and_eq_true] at h2
  refine ⟨a,b,?_,⟨_,h2.1⟩,⟨_,h2.2.1⟩⟩
  unfold pair
  congr 1
  exact zgD (by simpa using h3)
theorem zki {k n d:Int} {s:ByteArray} {l:List Dat} (h:fine (mk k n d s l)) (hk:k=4):mk k n d s l=null:=by
 obtain ⟨e,h⟩:=h
 subst hk
 simp only[right,Bool.and_eq_true,head] at h
 obtain ⟨_,h1,h2⟩:=h
 simp at h1
 obtain ⟨rfl,rfl,h3,rfl⟩:=h1
 unfold null
 congr 1
 exact zgD (by simpa using h3)
theorem zjl {x:Dat} (h:fine x) (hk:x.kind=2):x=Sy.sym x.s:=by
 obtain ⟨k,n,d,s,l⟩:=x
 obtain ⟨e,h⟩:=h
 replace hk:k=2:=hk
 subst hk
 simp only[right,Bool.and_eq_true,head] at h
 obtain ⟨_,h1,h2⟩:=h
 simp at h1
 obtain ⟨rfl,rfl,h3,rfl⟩:=h1
 rfl
end Dat
namespace Sy
open Dat
theorem zem (x:Dat) (h:fine x):(∀y∈(split x).1,fine y)∧((split x).2.kind=4→Dat.list (split x).1=x):=by
 induction x using Dat.ind with
 | h k n d s l ih=>
  by_cases hk:k=6
  ·obtain ⟨a,b,he,ha,hb⟩:=zkJ h hk
   have hl:l=[a,b]:=by unfold pair at he;injection he
   subst hl
   obtain ⟨i1,i2⟩:=ih b (by simp) hb
   rw[split_pair hk]
   refine ⟨List.forall_mem_cons.2 ⟨ha,i1⟩,fun h4=>?_⟩
   show pair a (Dat.list (split b).1)=_
   rw[i2 h4,he]
  ·rw[split_other hk]
   exact ⟨fun y hy=>by simp at hy,fun h4=>(zki h h4).symm⟩
theorem ze2 {x h:Dat} {t:List Dat} (hs:(split x).1=h::t):x.kind=6:=by
 obtain ⟨k,n,d,s,l⟩:=x
 by_cases hk:k=6
 ·exact hk
 ·rw[split_other hk] at hs;cases hs
theorem zeb:∀{l ns vs:List Dat},bindsL l=some (ns,vs)→(∀y∈l,fine y)→pairsL ns vs=l∧∀y∈vs,fine y
 | [],ns,vs,h,_=>by
  simp only[bindsL,Option.some.injEq,Prod.mk.injEq] at h
  obtain ⟨rfl,rfl⟩:=h
  exact ⟨rfl,fun y hy=>by simp at hy⟩
 | x::l,ns,vs,h,hs=>by
  obtain ⟨hpt,hsp⟩:=zem x (hs x (by simp))
  simp only[bindsL] at h
  split at h
  ·rename_i a c hac
   split at h
   ·rename_i h4
    obtain ⟨p,hp,he⟩:=Option.map_eq_some_iff.1 h
    simp only[Prod.mk.injEq] at he
    obtain ⟨rfl,rfl⟩:=he
    obtain ⟨i2,i3⟩:=zeb (ns:=p.1) (vs:=p.2) hp fun y hy=>hs y (by simp[hy])
    replace hsp:=hsp h4
    rw[hac] at hpt hsp
    refine ⟨?_,List.forall_mem_cons.2 ⟨hpt c (by simp),i3⟩⟩
    show Dat.list [a,c]::pairsL p.1 p.2=_
    rw[hsp,i2]
   ·cases h
  ·cases h
theorem ziB {x:Dat} {ns vs:List Dat} (h:binds x=some (ns,vs)) (hx:fine x):pairs ns vs=x∧∀y∈vs,fine y:=by
 unfold binds at h
 split at h
 ·rename_i h4
  obtain ⟨hpt,hsp⟩:=zem x hx
  obtain ⟨i1,i2⟩:=zeb h hpt
  refine ⟨?_,i2⟩
  unfold pairs
  rw[i1,hsp h4]
 ·cases h
def SE (K:Nat) (E:Dat→M Dat):Prop:=∀x,fine x→Dat.all x≤K→isCore x=true→∀n,E x n=some (some (x,n))
def SL (K:Nat) (L:Dat→List Dat→M Dat):Prop:=∀f b,fine f→fine b→Dat.all f+Dat.all b≤K→formals f=true→isCore b=true→∀n,L f [b] n=some (some (form lambdaB [f,b],n))
variable {K : Nat} {E : Dat → M Dat} {L : Dat → List Dat → M Dat}
theorem zcM (hE:SE K E):∀l:List Dat,(∀y∈l,fine y)→(∀y∈l,Dat.all y≤K)→(∀y∈l,isCore y=true)→∀n,all E l n=some (some (l,n))
 | [],_,_,_,_=>rfl
 | x::l,h1,h2,h3,n=>by
  have e1:=hE x (h1 x (by simp)) (h2 x (by simp)) (h3 x (by simp)) n
  have e2:=zcM hE l (fun y hy=>h1 y (by simp[hy])) (fun y hy=>h2 y (by simp[hy])) (fun y hy=>h3 y (by simp[hy])) n
  simp only[all,bnd,e1,e2]
  rfl
theorem zgR {b:Dat} (hb:tidy b=true) (hc:isCore b=true):define E L b=none:=by
 unfold define
 split
 ·rfl
 ·rename_i h t hsp
  split
  ·rename_i hq
   exfalso
   rw[zbO b hb] at hc
   unfold coreF at hc
   have hk:=ze2 hsp
   rw[if_neg (by rw[hk];decide),hsp] at hc
   have hnm:=hq.2
   unfold isNm at hnm
   simp only[Bool.and_eq_true,beq_iff_eq] at hnm
   have hs:h.s=defineB:=by
    rw[←of_toList h.s,hnm.2]
   simp only[hs] at hc
   rw[if_pos hq.1,if_pos ⟨hnm.1,by decide +kernel⟩] at hc
   unfold coreK at hc
   rw[if_neg (by decide +kernel),if_neg (by decide +kernel),if_neg (by decide +kernel),if_neg (by decide +kernel),if_neg (by decide +kernel),if_neg (by decide +kernel)] at hc
   cases hc
  ·rfl
theorem zdU (hE:SE K E) {b:Dat} (hb:fine b) (hk:Dat.all b≤K) (hc:isCore b=true) (n:Nat):body E L [b] n=some (some (b,n)):=by
 unfold body bodyF
 rw[zgR (zbN hb) hc]
 simp only[show distinct []=true from rfl,need,if_true,List.isEmpty_nil]
 unfold bnd
 simp only[hE b hb hk hc n]
 rfl
theorem zg1 (hE:SE K E) {f b:Dat} (hb:fine b) (hk:Dat.all b≤K) (hf:formals f=true) (hc:isCore b=true) (n:Nat):lambda E L f [b] n=some (some (form lambdaB [f,b],n)):=by
 unfold lambda
 simp only[hf,need,if_true]
 unfold bnd
 simp only[zdU hE hb hk hc n]
 rfl
theorem zis (hE:SE K E) (hL:SL K L) (key:ByteArray) (t:List Dat) (ht:∀y∈t,fine y) (hw:wt t≤K) (hc:coreK isCore key t=true) (n:Nat):formF E L key t n=some (some (form key t,n)):=by
 have hm:∀y∈t,Dat.all y≤K:=fun y hy=>by have:=wt_mem hy;omega
 unfold coreK at hc
 split at hc
 ·rename_i hk
  subst hk
  split at hc
  ·unfold formF
   rw[if_pos rfl]
   rfl
  ·cases hc
 split at hc
 ·rename_i hk
  subst hk
  split at hc
  ·rename_i a b c
   simp only[Bool.and_eq_true] at hc
   have e:=zcM hE [a,b,c] ht hm (fun y hy=>by
    simp only[List.mem_cons,List.not_mem_nil,or_false] at hy
    rcases hy with rfl | rfl | rfl
    ·exact hc.1
    ·exact hc.2.1
    ·exact hc.2.2) n
   unfold formF
   rw[if_neg (by decide +kernel),if_pos rfl]
   simp only[bnd,e]
   rfl
  ·cases hc
 split at hc
 ·rename_i hk
  subst hk
  split at hc
  ·cases hc
  ·rename_i x r
   have e:=zcM hE (x::r) ht hm (List.all_eq_true.1 hc) n
   unfold formF
   rw[if_neg (by decide +kernel),if_neg (by decide +kernel),if_neg (by decide +kernel),if_neg (by decide +kernel),if_pos rfl]
   unfold begin
   simp only[List.isEmpty_cons,Bool.not_false,need,if_true,bnd,e]
   rfl
 split at hc
 ·rename_i hk
  subst hk
  split at hc
  ·rename_i f b
   simp only[Bool.and_eq_true] at hc
   unfold formF
   rw[if_neg (by decide +kernel),if_neg (by decide +kernel),if_pos rfl]
   exact hL f b (ht f (by simp)) (ht b (by simp)) (by simp only[wt] at hw;omega) hc.1 hc.2 n
  ·cases hc
 split at hc
 ·rename_i hk
  subst hk
  split at hc
  ·rename_i x v
   simp only[Bool.and_eq_true] at hc
   have e:=hE v (ht v (by simp)) (hm v (by simp)) hc.2 n
   unfold formF
   rw[if_neg (by decide +kernel),if_neg (by decide +kernel),if_neg (by decide +kernel),if_pos rfl]
   simp only[hc.1,need,if_true,bnd,e]
   rfl
  ·cases hc
 split at hc
 ·rename_i hk
  split at hc
  ·rename_i x b
   split at hc
   ·rename_i p hp
    simp only[Bool.and_eq_true] at hc
    obtain ⟨b1,b2⟩:=ziB (ns:=p.1) (vs:=p.2) hp (ht x (by simp))
    obtain ⟨w1,_,_,_⟩:=zcl (ns:=p.1) (vs:=p.2) hp (zbN (ht x (by simp)))
    have hcs:=List.all_eq_true.1 hc.2
    have hx:=hm x (by simp)
    have e1:=zcM hE p.2 b2 (fun y hy=>by have:=wt_mem hy;omega) (fun y hy=>hcs y (List.mem_append_left _ hy)) n
    have e2:=zdU (L:=L) hE (ht b (by simp)) (hm b (by simp)) (hcs b (by simp)) n
    have e:∀c:ByteArray,c≠letrecB→c≠letrecSB→key≠c:=fun c h1 h2 h=>by rcases hk with rfl | rfl<;>simp_all
    unfold formF
    rw[if_neg (e _ (by decide +kernel) (by decide +kernel)),if_neg (e _ (by decide +kernel) (by decide +kernel)),if_neg (e _ (by decide +kernel) (by decide +kernel)),if_neg (e _ (by decide +kernel) (by decide +kernel)),if_neg (e _ (by decide +kernel) (by decide +kernel)),if_pos hk]
    simp only[orBad,hp,hc.1,need,if_true,bnd,e1,e2,b1]
    rfl
   ·cases hc
  ·cases hc
 ·cases hc
theorem zi5 (hE:SE K E) (hL:SL K L) (x:Dat) (hx:fine x) (hw:Dat.all x≤K+1) (hc:isCore x=true) (n:Nat):exprF E L x n=some (some (x,n)):=by
 have ht:=zbN hx
 rw[zbO x ht] at hc
 unfold coreF at hc
 unfold exprF
 split at hc
 ·rename_i h2
  rw[if_pos h2]
  simp only[hc,need,if_true]
  rfl
 ·rename_i h2
  rw[if_neg h2]
  split at hc
  ·cases hc
  ·rename_i h t hsp
   split at hc
   ·rename_i h4
    have h6:=ze2 hsp
    have h1:=zbf ht
    obtain ⟨f1,f2⟩:=zem x hx
    replace f2:=f2 h4
    rw[hsp] at h1 f1 f2
    rw[if_neg (by rw[h6];decide),if_pos h6,hsp]
    simp only[show ((split x).2.kind==4)=true from by rw[h4];rfl,need,if_true]
    split at hc
    ·rename_i hk
     rw[if_pos hk]
     simp only[wt] at h1
     rw[zis hE hL h.s t (fun y hy=>f1 y (List.mem_cons_of_mem _ hy)) (by have:=za8 h;omega) hc n]
     unfold form
     rw[←zjl (f1 h (by simp)) hk.1,f2]
    ·rename_i hk
     rw[if_neg hk]
     have e:=zcM hE (h::t) f1 (fun y hy=>by have:=wt_mem hy;omega) (List.all_eq_true.1 hc) n
     simp only[bnd,e]
     rw[f2]
     rfl
   ·cases hc
theorem zgJ:∀f:Nat,SE (min f 100000) (expr f)∧SL (min f 100000) (lam f)
 | 0=>⟨fun x _ h=>by have:=za8 x;omega,fun x b _ _ h=>by have:=za8 x;omega⟩
 | f+1=>by
  obtain ⟨hE,hL⟩:=zgJ f
  refine ⟨fun x hx hk hc n=>?_,fun g b hg hb hk hf hc n=>?_⟩
  ·have hs:small x=true:=small_iff.2 ⟨tidy_shaped x (zbN hx),by omega⟩
   unfold expr within
   simp only[hs,if_true]
   exact zi5 hE hL x hx (by omega) hc n
  ·have hs:small g=true:=small_iff.2 ⟨tidy_shaped g (zbN hg),by omega⟩
   have hs2:small b=true:=small_iff.2 ⟨tidy_shaped b (zbN hb),by omega⟩
   have hge:=za8 g
   unfold lam within
   simp only[hs,hs2,List.all_cons,List.all_nil,Bool.and_self,List.length_cons,List.length_nil,show decide (0+1≤100000)=true from rfl,if_true]
   exact zg1 hE hb (by omega) hf hc n
theorem exp_self {x:Dat} (hr:Dat.right x 0=true) (hm:Dat.marked x=false) (hw:Dat.all x≤99999) (hc:isCore x=true):exp [x]=some x:=by
 obtain ⟨hE,hL⟩:=zgJ 100000
 have h:=zdU (L:=lam 100000) hE ⟨0,hr⟩ (by omega) hc 0
 unfold exp expand
 rw[if_neg (by simp[hr,hm]),h]
 simp only[hr,if_true]
 rfl
end Sy
end
section
open Go Go.RowKit
namespace Sy
def awB1:ByteArray:=⟨#[40,100,101,102,105,110,101,32,40,102,32,120,41,32,120,41,32,40,102,32,49,41]⟩
def awB2:ByteArray:=⟨#[40,108,101,116,32,40,40,120,32,49,41,41,32,40,111,114,32,120,32,50,41,41]⟩
def awB3:ByteArray:=⟨#[40,41]⟩
def sF:Dat:=sym ⟨#[102]⟩
def sX:Dat:=sym ⟨#[120]⟩
def sP1:Dat:=sym ⟨#[37,49]⟩
def nD (n:Int):Dat:=.mk 0 n 1 Dat.emptyB []
def awL1:List Dat:=[Dat.list [sym defineB,Dat.list [sF,sX],sX],Dat.list [sF,nD 1]]
def awL2:List Dat:=[Dat.list [sym letB,Dat.list [Dat.list [sX,nD 1]],Dat.list [sym orB,sX,nD 2]]]
def awY1:Dat:=form letrecSB [Dat.list [Dat.list [sF,form lambdaB [Dat.list [sX],sX]]],Dat.list [sF,const (nD 1)]]
def awY2:Dat:=Dat.list [form lambdaB [Dat.list [sX],Dat.list [form lambdaB [Dat.list [sP1],form ifB [sP1,sP1,const (nD 2)]],sX]],const (nD 1)]
theorem awA1:Rd.A awB1.data.toList=.ok awL1 []:=by rfl
theorem awA2:Rd.A awB2.data.toList=.ok awL2 []:=by rfl
theorem awA3:Rd.A awB3.data.toList=.ok [Dat.null] []:=by rfl
theorem awR1:(readD awB1).1=some awL1:=by rw[zdL (by decide) awA1]
theorem awR2:(readD awB2).1=some awL2:=by rw[zdL (by decide) awA2]
theorem awR3:(readD awB3).1=some [Dat.null]:=by rw[zdL (by decide) awA3]
theorem awE1:exp awL1=some awY1:=by kernel_rfl
theorem awE2:exp awL2=some awY2:=by kernel_rfl
theorem awE3:exp [Dat.null]=none:=by kernel_rfl
theorem zkx:Num.text 1 1=[49]:=by decide +kernel
theorem zma:Num.text 2 1=[50]:=by decide +kernel
theorem awT1:Dat.text awY1 false=[40,108,101,116,114,101,99,42,32,40,40,102,32,40,108,97,109,98,100,97,32,40,120,41,32,120,41,41,41,32,40,102,32,40,113,117,111,116,101,32,49,41,41,41]:=by
 simp[awY1,sF,sX,nD,form,sym,const,letrecSB,lambdaB,Dat.list,Dat.pair,Dat.null,Dat.text,Dat.textP,Dat.textA,zkx]
theorem awT2:Dat.text awY2 false=[40,40,108,97,109,98,100,97,32,40,120,41,32,40,40,108,97,109,98,100,97,32,40,37,49,41,32,40,105,102,32,37,49,32,37,49,32,40,113,117,111,116,101,32,50,41,41,41,32,120,41,41,32,40,113,117,111,116,101,32,49,41,41]:=by
 simp[awY2,sP1,sX,nD,form,sym,const,ifB,lambdaB,Dat.list,Dat.pair,Dat.null,Dat.text,Dat.textP,Dat.textA,zkx,zma]
theorem awG1:toldL (readD awB1).1=[40,108,101,116,114,101,99,42,32,40,40,102,32,40,108,97,109,98,100,97,32,40,120,41,32,120,41,41,41,32,40,102,32,40,113,117,111,116,101,32,49,41,41,41]:=by
 rw[awR1]
 show (match exp awL1 with | none=>[63] | some y=>Dat.full y)=_
 rw[awE1]
 show Dat.full awY1=_
 rw[Dat.full,if_pos (by decide +kernel),awT1]
theorem awG2:toldL (readD awB2).1=[40,40,108,97,109,98,100,97,32,40,120,41,32,40,40,108,97,109,98,100,97,32,40,37,49,41,32,40,105,102,32,37,49,32,37,49,32,40,113,117,111,116,101,32,50,41,41,41,32,120,41,41,32,40,113,117,111,116,101,32,49,41,41]:=by
 rw[awR2]
 show (match exp awL2 with | none=>[63] | some y=>Dat.full y)=_
 rw[awE2]
 show Dat.full awY2=_
 rw[Dat.full,if_pos (by decide +kernel),awT2]
theorem awG3:toldL (readD awB3).1=[63]:=by
 rw[awR3]
 show (match exp [Dat.null] with | none=>[63] | some y=>Dat.full y)=_
 rw[awE3]
end Sy
theorem zfk (s:ByteArray) (hz:s.size≤1000) (l:List Dat) (r:Option Dat) (g:List UInt8) (h1:(readD s).1=some l) (h2:Sy.wt l≤100000) (h3:Sy.exp l=r) (h4:∀y,r=some y→(Dat.text y false).length≤1000) (h5:Sy.toldL (readD s).1=g) (w:World) (hE:Env w) :
  Calls prog 16 #[.string s] w fun e w'=>e=.returned (.string ⟨g.toArray⟩)∧Below w.heap.size w w':=by
 have:=zk4 s (by omega) w hE (fun l' hl=>by
  rw[h1] at hl
  obtain rfl:=Option.some.inj hl
  exact ⟨h2,fun y hy=>by have:=h4 y (by rw[←h3];exact hy);omega⟩)
 rw[h5] at this
 exact this
theorem ziZ (w:World) (hE:Env w):Calls prog 8 #[] w fun e w'=>e=.returned (.bool true)∧Below w.heap.size w w':=by
 have T1:=zh (show ∀(W:World),Env W→Calls prog 16 #[.string ⟨#[40,100,101,102,105,110,101,32,40,102,32,120,41,32,120,41,32,40,102,32,49,41]⟩] W fun e w'=>e=.returned (.string ⟨#[40,108,101,116,114,101,99,42,32,40,40,102,32,40,108,97,109,98,100,97,32,40,120,41,32,120,41,41,41,32,40,102,32,40,113,117,111,116,101,32,49,41,41,41]⟩)∧Below W.heap.size W w' from fun W h=>zfk Sy.awB1 (by decide) _ _ _ Sy.awR1 (by decide +kernel) Sy.awE1 (fun y hy=>by cases hy;rw[Sy.awT1];decide) Sy.awG1 W h)
 have T2:=zh (show ∀(W:World),Env W→Calls prog 16 #[.string ⟨#[40,108,101,116,32,40,40,120,32,49,41,41,32,40,111,114,32,120,32,50,41,41]⟩] W fun e w'=>e=.returned (.string ⟨#[40,40,108,97,109,98,100,97,32,40,120,41,32,40,40,108,97,109,98,100,97,32,40,37,49,41,32,40,105,102,32,37,49,32,37,49,32,40,113,117,111,116,101,32,50,41,41,41,32,120,41,41,32,40,113,117,111,116,101,32,49,41,41]⟩)∧Below W.heap.size W w' from fun W h=>zfk Sy.awB2 (by decide) _ _ _ Sy.awR2 (by decide +kernel) Sy.awE2 (fun y hy=>by cases hy;rw[Sy.awT2];decide) Sy.awG2 W h)
 have T3:=zh (show ∀(W:World),Env W→Calls prog 16 #[.string ⟨#[40,41]⟩] W fun e w'=>e=.returned (.string ⟨#[63]⟩)∧Below W.heap.size W w' from fun W h=>zfk Sy.awB3 (by decide) _ _ _ Sy.awR3 (by decide +kernel) Sy.awE3 (fun y hy=>by cases hy) Sy.awG3 W h)
 have HE:=zh hE
 clear hE
 go_enter func8,ntmps8
 go_wp2_with (first | (go_at_call 16;(with_reducible refine (T1.out _ HE.out).mono ?_);rintro e' w1 ⟨rfl,hb1⟩;have HB1:=zh hb1;have HE1:=zh (zbT HE.out hb1);clear hb1) | (go_at_call 16;(with_reducible refine (T2.out _ HE1.out).mono ?_);rintro e' w2 ⟨rfl,hb2⟩;have HB2:=zh hb2;have HE2:=zh (zbT HE1.out hb2);clear hb2) | (go_at_call 16;(with_reducible refine (T3.out _ HE2.out).mono ?_);rintro e' w3 ⟨rfl,hb3⟩) | fail)
 go_ret
 exact ⟨rfl,Below.next (Below.next HB1.out HB2.out) hb3⟩
end
section
open Go Go.RowKit
theorem ziU (x:Dat):Dat.alike x x=true:=by
 induction x using Dat.ind with
 | h k n d s l ih=>
  have key:∀l:List Dat,(∀y∈l,Dat.alike y y=true)→Dat.alikeL l l=true:=fun l=>by
   induction l with
   | nil=>intro _;rfl
   | cons x l ihl=>intro h;rw[Dat.alikeL,h x (by simp),ihl fun y hy=>h y (List.mem_cons_of_mem _ hy)];rfl
  rw[Dat.alike,key l ih]
  simp
theorem zfB {s:ByteArray} {i:Nat} (h:i<s.size) {c:UInt8} (hc:s[i]=c) (k:UInt8):(s.data.toList.take (i+1)).contains k=((s.data.toList.take i).contains k || (k==c)):=by
 have hl:i<s.data.toList.length:=h
 rw[←List.take_append_getElem hl,show s.data.toList[i]=c from hc]
 simp
 rfl
theorem zdz (l:List Dat) (v:Value) (w:World) (hv:RepS w w.heap.size l v) (hE:Env w) (hbk:Dat.bulkL l≤1048576) :
  Calls prog 7 #[v] w fun e w'=>e=.returned (.bool true)∧Below w.heap.size w w':=by
 have HAW:=zh (ziZ w hE)
 obtain ⟨q,hq⟩:∃q,(decide ((l.length:Int)≤400)&&decide ((Dat.allL l:Int)≤400))=q:=⟨_,rfl⟩
 have HF:=zh (fun (W:World) (hb:Below w.heap.size w W)=>zly l v 400 W ((hv.kept hb).wider hb.size) (by omega) (by omega) q hq)
 cases q with
 | false=>
  clear hq hv hbk hE
  go_enter func7,ntmps7
  go_wp2_with (first | (go_at_call 8;refine HAW.out.mono ?_;rintro e' w1 ⟨rfl,hb1⟩;have HB1:=zh hb1;clear hb1) | (go_at_call 9;refine (HF.out _ HB1.out).mono ?_;rintro e' w2 ⟨rfl,hb2⟩) | fail)
  go_ret
  exact ⟨rfl,Below.next HB1.out hb2⟩
 | true=>
  have hw:Sy.wt l≤800:=by
   simp only[Bool.and_eq_true,decide_eq_true_eq] at hq
   rw[Sy.wt_allL]
   omega
  have hX:∀W,Below w.heap.size w W→Calls prog 10 #[v] W (ExpPost (Sy.exp l) W):=fun W hb=>zfq l v W ((hv.kept hb).wider hb.size) (zbT hE hb) (by omega)
  have hT:∀y,Sy.exp l=some y→(Dat.text y false).length≤140737488355328:=fun y hy=>Sy.exp_text (by omega) hbk hy
  have hR:∀y,Sy.exp l=some y→Dat.right y 0=true∧Dat.all y≤48015∧Sy.isCore y=true:=fun y hy=>by
   obtain ⟨_,h⟩:=Sy.exp_some (l:=l) (by omega)
   obtain ⟨h1,h2,_⟩:=h y hy
   exact ⟨h1,by omega,Sy.exp_core (by omega) hy⟩
  have HE:=zh hE
  clear hq hv hbk hE hw
  cases hx:Sy.exp l with
  | none=>
   have HX:=zh (show ∀W,Below w.heap.size w W→Calls prog 10 #[v] W (fun e w'=>Below W.heap.size W w'∧e=.returned (.tuple #[.agg #[.int .i64 0,.int .i64 0,.int .i64 0,.string ⟨#[]⟩,.slice none 0 0],.int .i64 3])) from fun W hb=>(hX W hb).mono fun e w' h=>by rw[hx] at h;exact h)
   clear hX hT hR hx
   go_enter func7,ntmps7
   go_wp2_with (first | (go_at_call 8;refine HAW.out.mono ?_;rintro e' w1 ⟨rfl,hb1⟩;have HB1:=zh hb1;clear hb1) | (go_at_call 9;refine (HF.out _ HB1.out).mono ?_;rintro e' w2 ⟨rfl,hb2⟩;have HB2:=zh (Below.next HB1.out hb2);clear hb2) | (go_at_call 10;refine (HX.out _ HB2.out).mono ?_;rintro e' w3 ⟨hb3,rfl⟩) | fail)
   go_ret
   exact ⟨rfl,Below.next (Below.next HB2.out hb3) (Below.one _ _)⟩
  | some y=>
   obtain ⟨hr,hal,hco⟩:=hR y hx
   have HX:=zh (show ∀W,Below w.heap.size w W→Calls prog 10 #[v] W (fun e w'=>Below W.heap.size W w'∧∃k n d s o len cap,e=.returned (.tuple #[.agg #[.int .i64 k,.int .i64 n,.int .i64 d,.string s,.slice o len cap],.int .i64 0])∧RepD w' w'.heap.size y (.agg #[.int .i64 k,.int .i64 n,.int .i64 d,.string s,.slice o len cap])) from fun W hb=>(hX W hb).mono fun e w' h=>by
    rw[hx] at h
    obtain ⟨hb',v,rfl,hr'⟩:=h
    obtain ⟨k,n,d,s',o,len,cap,rfl⟩:=zae hr'
    exact ⟨hb',k,n,d,s',o,len,cap,rfl,hr'⟩)
   obtain ⟨f,hf⟩:∃f,Dat.text y false=f:=⟨_,rfl⟩
   have HXT:=zh (fun (W:World) (v:Value) (hv:RepD W W.heap.size y v) (hb:Below w.heap.size w W)=>show Calls prog 15 #[v] W fun e w'=>e=.returned (.string ⟨f.toArray⟩)∧Below W.heap.size W w' from by
    have:=zgk y v W.heap.size W hv (Nat.le_refl _) (zbT HE.out hb) (fun _=>hT y hx)
    rw[zi1 hr,hf] at this
    exact this)
   have HXC:=zh (fun (W:World) (v:Value) (hv:RepD W W.heap.size y v)=>show Calls prog 18 #[v] W fun e w'=>e=.returned (.bool true)∧Below W.heap.size W w' from by
    have:=zky y v W.heap.size W hv (Nat.le_refl _) (fun _=>by omega)
    rw[hr,hco] at this
    exact this)
   have HXS:=zh (fun (W:World) (v u:Value) (hv:RepD W W.heap.size y v) (hu:RepD W W.heap.size y u)=>show Calls prog 22 #[v,u] W fun e w'=>e=.returned (.bool true)∧Below W.heap.size W w' from by
    have:=zkV y y v u W.heap.size W hv hu (Nat.le_refl _)
    rw[hr,ziU] at this
    exact this)
   have HX2:=zh (fun (hm:Dat.marked y=false) (W:World) (v:Value) (hv:RepS W W.heap.size [y] v) (hb:Below w.heap.size w W)=>show Calls prog 10 #[v] W (fun e w'=>Below W.heap.size W w'∧∃k n d s o len cap,e=.returned (.tuple #[.agg #[.int .i64 k,.int .i64 n,.int .i64 d,.string s,.slice o len cap],.int .i64 0])∧RepD w' w'.heap.size y (.agg #[.int .i64 k,.int .i64 n,.int .i64 d,.string s,.slice o len cap])) from by
    refine (zfq [y] v W hv (zbT HE.out hb) (by simp only[Sy.wt];omega)).mono fun e w' h=>?_
    rw[Sy.exp_self hr hm (by omega) hco] at h
    obtain ⟨hb',v,rfl,hr'⟩:=h
    obtain ⟨k,n,d,s',o,len,cap,rfl⟩:=zae hr'
    exact ⟨hb',k,n,d,s',o,len,cap,rfl,hr'⟩)
   have HMK:=zh (show f.contains 37=false→Dat.marked y=false from fun h=>by
    cases hm:Dat.marked y with
    | false=>rfl
    | true=>
     have:=Dat.marked_text y 0 false hr hm
     rw[hf] at this
     have h2:f.contains 37=true:=by simpa using this
     rw[h] at h2;cases h2)
   have hfl:f.length≤140737488355328:=by rw[←hf];exact hT y hx
   clear hX hT hR hx hr hal hco hf
   go_enter func7,ntmps7
   go_upto_region 5 with (first | (go_at_call 8;refine HAW.out.mono ?_;rintro e' w1 ⟨rfl,hb1⟩;have HB1:=zh hb1;clear hb1) | (go_at_call 9;refine (HF.out _ HB1.out).mono ?_;rintro e' w2 ⟨rfl,hb2⟩;have HB2:=zh (Below.next HB1.out hb2);clear hb2) | (go_at_call 10;refine (HX.out _ HB2.out).mono ?_;rintro e' w3 ⟨hb3,k7,n7,d7,s7,o7,len7,cap7,rfl,hr7⟩;have HR7:=zh hr7;have HB3:=zh hb3;clear hr7 hb3) | fail)
   obtain ⟨W3,hW3⟩:∃W3,w3.alloc (.cells #[.int .i64 k7,.int .i64 n7,.int .i64 d7,.string s7,.slice o7 len7 cap7] 26)=W3:=⟨_,rfl⟩
   have hb:Box5 W3 w3.heap.size 26 (.int .i64 k7) (.int .i64 n7) (.int .i64 d7) (.string s7) (.slice o7 len7 cap7):=by rw[←hW3];exact Box5.new w3 _ _ _ _ _ _
   have hb3:Below w3.heap.size w3 W3:=by rw[←hW3];exact Below.one _ _
   rw[hW3]
   have HKP:=zh (show ∀W,Below W3.heap.size W3 W→Box5 W w3.heap.size 26 (.int .i64 k7) (.int .i64 n7) (.int .i64 d7) (.string s7) (.slice o7 len7 cap7)∧RepD W W.heap.size y (.agg #[.int .i64 k7,.int .i64 n7,.int .i64 d7,.string s7,.slice o7 len7 cap7])∧Below w.heap.size w W from fun W hW=>⟨(hW.block _ hb.lt).trans hb,((HR7.out.kept hb3).kept (hW.mono hb3.size)).wider (by have:=hb3.size;have:=hW.size;omega),Below.next (Below.next (Below.next HB2.out HB3.out) hb3) hW⟩)
   clear hb hb3 hW3
   obtain ⟨hk0,hr0,hb0⟩:=HKP.out W3 (Below.refl _ _)
   obtain ⟨i0,i1,i2,i3,i4⟩:=hk0.cells
   have il:=hk0.lt
   have HC0:=zh (HXC.out W3 _ hr0)
   clear hk0 hr0 hb0
   go_upto_region 9 with (first | (go_at_call 18;refine HC0.out.mono ?_;rintro e' w4 ⟨rfl,hb4⟩;have HB4:=zh hb4;clear hb4 i0 i1 i2 i3 i4 il) | fail)
   obtain ⟨hk0,hr0,hb0⟩:=HKP.out w4 HB4.out
   obtain ⟨i0,i1,i2,i3,i4⟩:=hk0.cells
   have il:=hk0.lt
   have HT0:=zh (HXT.out w4 _ hr0 hb0)
   clear hk0 hr0 hb0
   go_upto_region 10 with (first | (go_at_call 15;refine HT0.out.mono ?_;rintro e' w5 ⟨rfl,hb5⟩;have HB5:=zh (Below.next HB4.out hb5);clear hb5 i0 i1 i2 i3 i4 il) | fail)
   obtain ⟨S,hS⟩:∃S:ByteArray,S=⟨f.toArray⟩:=⟨_,rfl⟩
   have HSF:=zh (show S.data.toList=f from by rw[hS])
   have hsz:S.size≤140737488355328:=by
    have:S.size=f.length:=by rw[hS];rfl
    omega
   rw[←hS]
   clear hS hfl
   go_wp2_with fail
   go_loopg [7] S.size (fun g iv wr=>∃(i:Nat),iv=.int .i64 i∧g=S.size-i∧i≤S.size∧Hid ((S.data.toList.take i).contains 37=false)∧w5=wr)
   case atStart=>exact ⟨0,rfl,rfl,by omega,zh rfl,rfl⟩
   case round=>
    obtain ⟨i,rfl,rfl,hi,HC,rfl⟩:=hrel
    by_cases hlt:i<S.size
    ·have hd:decide ((i:Int)<(S.size:Int))=true:=by simp;omega
     obtain ⟨c,hcc⟩:∃c,S[i]=c:=⟨_,rfl⟩
     have q37:((c.toNat:Int)==37)=decide (c=37):=u8_eq c 37
     have HX:=zh (zfB hlt hcc 37)
     by_cases h37:c=37
     ·rw[decide_eq_true h37] at q37
      clear h37
      go_wp2_with fail
      go_ret
      exact ⟨rfl,(HKP.out _ HB5.out).2.2⟩
     ·rw[decide_eq_false h37] at q37
      have HC2:=zh (show (S.data.toList.take (i+1)).contains 37=false from by rw[HX.out,HC.out];simpa using fun e=>h37 e.symm)
      clear h37
      go_wp2_with fail
      go_roundg (S.size-(i+1))
      case measure=>omega
      case rel=>exact ⟨i+1,by go_num,rfl,by omega,HC2,rfl⟩
    ·have hd:decide ((i:Int)<(S.size:Int))=false:=by simp;omega
     have HM:=zh (HMK.out (by
      have:=HC.out
      rw[List.take_of_length_le (by show S.size≤i;omega),HSF.out] at this
      exact this))
     obtain ⟨hk0,hr0,hb0⟩:=HKP.out w5 HB5.out
     obtain ⟨i0,i1,i2,i3,i4⟩:=hk0.cells
     have il:=hk0.lt
     have HR0:=zh hr0
     have HB0:=zh hb0
     clear hk0 hr0 hb0 HC
     go_upto_region 16 with (first | (go_at_call 10;refine (HX2.out HM.out _ _ (zaA (S:=fun _=>False) (fun _ h=>h.elim) (HR0.out.dug fun _ h=>h.elim)).unhide (Below.next HB0.out (Below.one _ _))).mono ?_;rintro e' w6 ⟨hb6,k8,n8,d8,s8,o8,len8,cap8,rfl,hr8⟩;have HR8:=zh hr8;have HB6:=zh hb6;clear hr8 hb6) | fail)
     obtain ⟨W8,hW8⟩:∃W8,w6.alloc (.cells #[.int .i64 k8,.int .i64 n8,.int .i64 d8,.string s8,.slice o8 len8 cap8] 26)=W8:=⟨_,rfl⟩
     have hb:Box5 W8 w6.heap.size 26 (.int .i64 k8) (.int .i64 n8) (.int .i64 d8) (.string s8) (.slice o8 len8 cap8):=by rw[←hW8];exact Box5.new w6 _ _ _ _ _ _
     have hb8:Below w6.heap.size w6 W8:=by rw[←hW8];exact Below.one _ _
     have hone:Below w5.heap.size w5 (w5.alloc (.cells #[.int .i64 k7,.int .i64 n7,.int .i64 d7,.string s7,.slice o7 len7 cap7] 26)):=Below.one _ _
     have h38:=Below.next (Below.next (Below.next HB5.out hone) HB6.out) hb8
     rw[hW8]
     obtain ⟨hk1,hr1,hb1⟩:=HKP.out W8 h38
     obtain ⟨i0,i1,i2,i3,i4⟩:=hk1.cells
     have il:=hk1.lt
     obtain ⟨j0,j1,j2,j3,j4⟩:=hb.cells
     have jl:=hb.lt
     have HS1:=zh (HXS.out W8 _ _ hr1 ((HR8.out.kept hb8).wider hb8.size))
     have HB1:=zh hb1
     clear hk1 hr1 hb hb8 hone h38 hW8 hb1
     go_wp2_with (first | (go_at_call 22;refine HS1.out.mono ?_;rintro e' w9 ⟨rfl,hb9⟩) | fail)
     go_ret
     exact ⟨rfl,Below.next HB1.out hb9⟩
end
end Go.Proofs.YtnbjhmafnigefaaGreatDoor
