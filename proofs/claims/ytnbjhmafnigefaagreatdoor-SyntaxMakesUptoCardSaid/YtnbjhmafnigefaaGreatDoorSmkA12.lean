/- .. -/
import Derived.Test.YtnbjhmafnigefaaGreatDoorSmkA11
open Go.Proofs.Tryz
set_option maxRecDepth 100000
set_option maxHeartbeats 16000000
namespace Go.Proofs.YtnbjhmafnigefaaGreatDoor
section
open Go Go.RowKit
theorem Sp.got {S:Nat→Prop} {p:Option (Dat × Nat)} {v:Value} {W:World} (h:(Sp.dat (p.map (·.1))).holds S v W):∃y m,p=some (y,m)∧RepD (hide W S) W.heap.size y v:=by
 obtain ⟨x,hx,hr⟩:=h
 match p,hx with
 | some (y,m),hx=>exact ⟨y,m,rfl,by rw[Option.some.inj (show some y=some x from hx)];exact hr⟩
theorem Sp.cells {S:Nat→Prop} {x:Dat} {W:World} {G off:Nat} (h:(Sp.elm (some x)).holds S (.pointer (some ⟨G,off,none⟩)) W):∃(k n d:Int) (s:ByteArray) (p:Option Addr) (len cap:Nat),RepD (hide W S) W.heap.size x (.agg #[.int .i64 k,.int .i64 n,.int .i64 d,.string s,.slice p len cap])∧W.cell? ⟨G,off,none⟩=some (.int .i64 k)∧W.cell? ⟨G,off+1,none⟩=some (.int .i64 n)∧W.cell? ⟨G,off+2,none⟩=some (.int .i64 d)∧W.cell? ⟨G,off+3,none⟩=some (.string s)∧W.cell? ⟨G,off+4,none⟩=some (.slice p len cap)∧G<W.heap.size:=by
 obtain ⟨y,c,o,k,n,d,s,p,len,cap,hx,hv,e0,e1,e2,e3,e4,hr⟩:=h
 obtain rfl:=Option.some.inj hx
 simp only[Value.pointer.injEq,Option.some.injEq,Addr.mk.injEq,and_true] at hv
 obtain ⟨rfl,rfl⟩:=hv
 have f0:=(zac e0).2
 exact ⟨k,n,d,s,p,len,cap,hr,f0,(zac e1).2,(zac e2).2,(zac e3).2,(zac e4).2,zai f0⟩
theorem Sp.slice {S:Nat→Prop} {l:List Dat} {v:Value} {W:World} (h:(Sp.row (some l)).holds S v W):∃(o:Option Addr) (len cap:Nat),v=.slice o len cap∧len=l.length∧len≤cap:=by
 obtain ⟨o,len,cap,h1,h2,h3,_⟩:=Sp.data h
 exact ⟨o,len,cap,h1,h2,h3⟩
def BindP (S:Nat→Prop) (r:Option (List Dat × List Dat)) (w:World) (e:Ending) (w':World):Prop:=
 ∃(ln lv:List Dat) (vn vv:Value) (ok:Bool),e=.returned (.tuple #[vn,vv,.bool ok])∧(Sp.row (some ln)).holds S vn w'∧(Sp.row (some lv)).holds S vv w'∧Below w.heap.size w w'∧(ok=true→r=some (ln,lv))∧(ok=false→r=none)
section
variable {S : Nat → Prop} {b H n : Nat} {w W : World}
theorem XS.bindings (hst:XS S b H n w W) (x:Dat) (v:Value) (hx:RepD (hide W (S1 S H)) W.heap.size x v) (hsh:Dat.shaped x=true) (hal:Dat.all x≤100000):Calls prog 76 #[v] W (BindP (S1 S H) (Sy.binds x) W):=by
 refine (zbv (S1 S H) x v W.heap.size W hst.lt hx (Nat.le_refl _) hsh hal).mono ?_
 rintro e w' ⟨ln,lv,vn,vv,ok,rfl,hg1,hg2,hb1,hok1,hok2, -⟩
 exact ⟨ln,lv,vn,vv,ok,rfl,Sp.ofS (hg1.less (S:=S1 S H) (fun c h=>.inl h) (Nat.le_refl _)).rep,Sp.ofS (hg2.less (S:=S1 S H) (fun c h=>.inl h) (Nat.le_refl _)).rep,hb1,hok1,hok2⟩
theorem XS.items (hst:XS S b H n w W) (x:Dat) (v:Value) (r:Bool) (hr:((Sy.split x).2.kind==4)=r) (hx:RepD (hide W (S1 S H)) W.heap.size x v) (hsh:Dat.shaped x=true) (hal:Dat.all x≤100000):Calls prog 73 #[v] W fun e w'=>∃(o':Option Addr) (len' cap':Nat),e=.returned (.tuple #[.slice o' len' cap',.bool r])∧(Sp.row (some (Sy.split x).1)).holds (S1 S H) (.slice o' len' cap') w'∧len'=(Sy.split x).1.length∧Below W.heap.size W w':=by
 refine (zbm (S1 S H) x v W.heap.size W r hr hst.lt hx (Nat.le_refl _) hsh hal).mono ?_
 rintro e w' ⟨o',len',cap',rfl,h1,h2⟩
 exact ⟨o',len',cap',rfl,Sp.ofS h1,(zbj h1).1,h2⟩
theorem XS.distinct (_hst:XS S b H n w W) (l:List Dat) (sl:Value) (hv:(Sp.row (some l)).holds (S1 S H) sl W) (hl:l.length≤1000000):Calls prog 49 #[sl] W fun e w'=>e=.returned (.bool (Sy.distinct l))∧Below W.heap.size W w':=
 zaL l sl W.heap.size W (Sp.data hv).unhide (Nat.le_refl _) hl
end
namespace Sy
theorem small_iff {x:Dat}:small x=true↔Dat.shaped x=true∧Dat.all x≤100000:=by
 unfold small
 rw[Bool.and_eq_true,decide_eq_true_eq]
end Sy
end
section
open Go Go.RowKit
theorem ziL {E:Dat→Sy.M Dat} {L:Dat→List Dat→Sy.M Dat} (hE:EOk E) (hL:LOk L) (S:Nat→Prop) (b n:Nat) (f x:Dat) (fv xv:Value) (l:List Dat) (sl:Value) (w:World) (r:Option (Dat × Nat)) (hr:Sy.namedF E L f x l n=some r) (hS:∀c,S c→c<w.heap.size) (hb:S b) (hx:XP w b n) (hV:Env w) (hfv:RepD (hide w S) w.heap.size f fv) (hxv:RepD (hide w S) w.heap.size x xv) (hsm:Sy.small x=true) (hv:RepS (hide w S) w.heap.size l sl) :
  Calls prog 109 #[.pointer (some ⟨b,0,none⟩),fv,xv,sl] w (XRes S b r w):=by
 obtain ⟨k1,m1,d1,s1,o1,len1,cap1,rfl⟩:=zae hfv.unhide
 obtain ⟨k2,m2,d2,s2,o2,len2,cap2,rfl⟩:=zae hxv.unhide
 obtain ⟨W0,hW0,hst,he1,he2⟩:=zj2 hS hb hx hV hfv hxv
 have HST:=zh hst
 have HW0:=zh hW0
 have HE1:=zh he1
 have HE2:=zh he2
 obtain ⟨hsh,hal⟩:=Sy.small_iff.1 hsm
 have HL:=zh hL
 have HE:=zh hE
 have HR:=zh hr
 have HAL:=zh hal
 have HLV:=zh (hst.first (Sp.ofS hv))
 obtain ⟨k,m,d,st,o,len,cap,hxr,q0,q1,q2,q3,q4,ql⟩:=Sp.cells he2
 have HC:=zh (hst.bindings x _ hxr hsh hal)
 clear hst he1 he2 hW0 hL hE hr hal hsh hsm hv hfv hxv hS hb hx hV hxr
 go_enter func109,ntmps109
 go_upto_region 1 with fail
 rw[HW0.out]
 go_upto_region 2 with (first | (go_at_call 76;refine HC.out.mono ?_;rintro e' w1 ⟨ln,lv,vn,vv,ok,rfl,hg1,hg2,hb1,hok1,hok2⟩) | fail)
 have HST1:=zh (HST.out.below hb1)
 cases ok
 ·have hbn:=hok2 rfl
  have hrn:r=none:=by
   have h:=HR.out
   unfold Sy.namedF at h
   rw[hbn] at h
   exact Sy.bad_split (n:=n) h
  subst hrn
  go_wp2_with (first | (go_at_call 30;refine (zaf _).mono ?_;rintro e' wN ⟨rfl,rfl⟩) | fail)
  exact ⟨rfl,HST1.out.bad⟩
 ·have hbn:=hok1 rfl
  have HBL:=zh (Sy.binds_len hbn)
  have HR2:=zh (show Sy.need (Sy.distinct ln) (Sy.bnd (L (Dat.list ln) l) fun g=>Sy.loopF E f g lv) n=some r from by have h:=HR.out;unfold Sy.namedF at h;rw[hbn] at h;exact h)
  have HDI:=zh (HST1.out.distinct ln vn hg1 (by have:=HBL.out.1;have:=HAL.out;omega))
  have HG1:=zh hg1
  have HG2:=zh hg2
  have HB1:=zh hb1
  obtain ⟨di,hdi⟩:∃di,Sy.distinct ln=di:=⟨_,rfl⟩
  rw[hdi] at HDI
  have HRS:=zh (Sy.need_split HR2.out)
  rw[hdi] at HRS
  clear hg1 hg2 hb1 hok1 hok2 hbn q0 q1 q2 q3 q4 ql HR2 hdi
  cases di
  ·have hrn:=HRS.out.1 rfl
   subst hrn
   go_wp2_with (first | (go_at_call 49;refine HDI.out.mono ?_;rintro e' w2 ⟨rfl,hb2⟩) | (go_at_call 30;refine (zaf _).mono ?_;rintro e' wN ⟨rfl,rfl⟩) | fail)
   exact ⟨rfl,HST1.out.bad' (Turned.of_below hb2)⟩
  ·go_upto_region 3 with (first | (go_at_call 49;refine HDI.out.mono ?_;rintro e' w2 ⟨rfl,hb2⟩) | (go_at_call 30;refine (zag _).mono ?_;rintro e' wN ⟨⟨vN,rfl⟩,rfl⟩) | fail)
   have HST3:=zh (HST1.out.below hb2)
   have HG3:=zh (Sp.below HG1.out hb2)
   have HV3:=zh (Sp.below HG2.out hb2)
   have HL3:=zh (Sp.below (Sp.below HLV.out HB1.out) hb2)
   have HF3:=zh (Sp.below (Sp.below HE1.out HB1.out) hb2)
   obtain ⟨p1,hp1,hn1,hk⟩:=Sy.bnd_split (HRS.out.2 (by trivial))
   obtain ⟨p2,hp2⟩:∃p2,r=p2:=⟨_,rfl⟩
   have HP1:=zh hp1
   have HNp1:=zh hn1
   have HP2:=zh (show ∀y n',p1=some (y,n')→Sy.loopF E f y lv n'=some p2 from by rw[←hp2];exact hk)
   have HNp2:=zh (show p2=none→r=none from fun h=>by rw[hp2];exact h)
   have HRF:=zh hp2
   clear hb2 hp1 hn1 hk hp2
   refine zad (dr:=true) (S:=S) (b:=b) (H:=(w.heap.size+2)) 9 [6,8] (fun j=>[n,cnt p1,cnt p2].getD j 0) [.val (.pointer (some ⟨b,0,none⟩)),.dat (some (f)),.val (.pointer (some ⟨b,0,none⟩)),.row (some (ln)),.dat ((some (ln)).map Dat.list),.row (some (l)),.dat (p1.map (·.1)),.row (some (lv)),.dat (p2.map (·.1))] HST3.out (by show zB _ _ 9 33=true;kernel_rfl) (by decide) (by decide) (by kernel_rfl) ?hops ?hcall ?hend
   case hops=>
    intro i o8 hi hip ho a8 w8 hdf hlt8 ht8 hdep hrest
    match i,hi,hip with
    | 0,_,_=>cases ho;exact zab rfl (Sp.at hrest 0 (by kernel_rfl) (rfl) (.inl HST3.out.own) ht8)
    | 1,_,_=>cases ho;exact zak rfl (Sp.at hrest 5 (by kernel_rfl) (HF3.out) (.inl HST3.out.own) ht8)
    | 2,_,_=>cases ho;exact zab rfl (Sp.at hrest 0 (by kernel_rfl) (rfl) (.inl HST3.out.own) ht8)
    | 3,_,_=>cases ho;exact zab rfl (Sp.at hrest 9 (by kernel_rfl) (HG3.out) (.inl HST3.out.own) ht8)
    | 4,_,_=>cases ho;exact zb3 rfl (Sp.dep hdep 3 27 (by kernel_rfl)) hlt8
    | 5,_,_=>cases ho;exact zab rfl (Sp.at hrest 3 (by kernel_rfl) (HL3.out) (.inl HST3.out.own) ht8)
    | 6,_,h=>exact absurd (by decide) h
    | 7,_,_=>cases ho;exact zab rfl (Sp.at hrest 10 (by kernel_rfl) (HV3.out) (.inl HST3.out.own) ht8)
    | 8,_,h=>exact absurd (by decide) h
    | i+9,hi,_=>exact absurd hi (by omega)
   case hcall=>
    intro j i o8 hj ho a8 w8 hdf hst8 ht8 hdep hprev hrest
    match j,hj with
    | 0,hj=>
     cases hj;cases ho
     have hv0:a8.tmps.getD 26 undef=.pointer (some ⟨b,0,none⟩):=(Sp.dep hdep 2 26 (by kernel_rfl))
     refine zaE (p:=p1) (vals:=#[.pointer (some ⟨b,0,none⟩),a8.tmps.getD 28 undef,a8.tmps.getD 29 undef]) rfl (by simp only[List.map_toArray,List.map_cons,List.map_nil];rw[←hv0];rfl) (fun _ _=>rfl) (HL.out (S1 S (w.heap.size+2)) b _ (Dat.list ln) _ l _ w8 p1 HP1.out hst8.lt (.inl hst8.own) hst8.hx hst8.hE (Sp.datum (Sp.dep hdep 4 28 (by kernel_rfl))) (Sp.data (Sp.dep hdep 5 29 (by kernel_rfl)))) fun hp w9 ht9=>?_
     have hrn:=HNp1.out hp
     subst hrn
     exact ⟨hdf,hst8.bad' ht9⟩
    | 1,hj=>
     cases hj;cases ho
     obtain ⟨y1,m1,hq1,hy1⟩:=Sp.got (Sp.dep hdep 6 30 (by kernel_rfl))
     have hv0:a8.tmps.getD 24 undef=.pointer (some ⟨b,0,none⟩):=(Sp.dep hdep 0 24 (by kernel_rfl))
     refine zaE (p:=p2) (vals:=#[.pointer (some ⟨b,0,none⟩),a8.tmps.getD 25 undef,a8.tmps.getD 30 undef,a8.tmps.getD 31 undef]) rfl (by simp only[List.map_toArray,List.map_cons,List.map_nil];rw[←hv0];rfl) (fun _ _=>rfl) (zd2 HE.out (S1 S (w.heap.size+2)) b (cnt p1) f y1 _ _ lv _ w8 p2 (by rw[hq1];exact HP2.out y1 m1 hq1) hst8.lt (.inl hst8.own) hst8.hx hst8.hE (Sp.datum (Sp.dep hdep 1 25 (by kernel_rfl))) hy1 (Sp.data (Sp.dep hdep 7 31 (by kernel_rfl))) (by have:=HBL.out.2;have:=HAL.out;omega)) fun hp w9 ht9=>?_
     have hrn:=HNp2.out hp
     subst hrn
     exact ⟨hdf,hst8.bad' ht9⟩
    | _+2,hj=>simp at hj
   case hend=>
    intro a8 w8 hdf hsz hst8 ht8 hval hrest
    refine fin_s (r:=r) hst8 (hval 8 _ 32 (by omega) rfl rfl) (fun x8 hx8=>?_) ((hrest.at 8 (by kernel_rfl)).trans rfl) hdf rfl results109 fun w9 h9=>?_
    ·clear hval hrest hdf hsz hst8 ht8
     rcases p2 with _ | ⟨y2,n2⟩
     ·simp at hx8
     rcases p1 with _ | ⟨y1,n1⟩
     ·exact absurd (HRF.out.symm.trans (HNp1.out rfl)) (by simp)
     cases hx8
     exact HRF.out
    ·go_wp2_with fail
end
section
open Go Go.RowKit
namespace Sy
def wt:List Dat→Nat
 | []=>0
 | x::l=>1+Dat.all x+wt l
theorem zeg (x:Dat) (hs:Dat.shaped x=true):Dat.all x=wt (split x).1+Dat.all (split x).2:=by
 induction x using Dat.ind with
 | h k n d s l ih=>
  by_cases hk:k=6
  ·obtain ⟨a,b,rfl,ha,hb⟩:=shaped_pair hs hk
   rw[split_pair hk]
   have:=ih b (by simp) hb
   simp only[Dat.all,Dat.allL,wt]
   omega
  ·rw[split_other hk]
   simp[wt]
theorem zaG:∀l:List Dat,Dat.all (Dat.list l)=wt l+1
 | []=>rfl
 | x::l=>by
  rw[show Dat.list (x::l)=Dat.pair x (Dat.list l) from rfl,Dat.pair]
  simp only[Dat.all,Dat.allL,wt]
  have:=zaG l
  omega
theorem zcG:∀{l:List Dat},(∀y∈l,Dat.shaped y=true)→Dat.shaped (Dat.list l)=true
 | [],_=>rfl
 | x::l,h=>by
  rw[show Dat.list (x::l)=Dat.pair x (Dat.list l) from rfl,Dat.pair]
  have hl:Dat.shaped (Dat.list l)=true:=zcG (l:=l) fun y hy=>h y (List.mem_cons_of_mem _ hy)
  simp only[Dat.shaped,Dat.shapedL,h x List.mem_cons_self,hl]
  rfl
theorem zdk:∀{l ns vs:List Dat},bindsL l=some (ns,vs)→(∀y∈l,Dat.shaped y=true)→wt (pairsL ns vs)≤wt l∧(∀y∈pairsL ns vs,Dat.shaped y=true)∧(∀y∈ns,Dat.shaped y=true∧Dat.all y≤wt l)∧(∀y∈vs,Dat.shaped y=true∧Dat.all y≤wt l)
 | [],ns,vs,h,_=>by
  simp only[bindsL,Option.some.injEq,Prod.mk.injEq] at h
  obtain ⟨rfl,rfl⟩:=h
  exact ⟨Nat.le_refl _,fun y hy=>by simp[pairsL] at hy,fun y hy=>by simp at hy,fun y hy=>by simp at hy⟩
 | x::l,ns,vs,h,hs=>by
  have hx:=hs x (by simp)
  have hsum:=zeg x hx
  have hpt:=(split_parts x hx).1
  simp only[bindsL] at h
  split at h
  ·rename_i a c hac
   split at h
   ·obtain ⟨p,hp,he⟩:=Option.map_eq_some_iff.1 h
    simp only[Prod.mk.injEq] at he
    obtain ⟨rfl,rfl⟩:=he
    obtain ⟨i1,i2,i3,i4⟩:=zdk (ns:=p.1) (vs:=p.2) hp fun y hy=>hs y (by simp[hy])
    rw[hac] at hsum hpt
    have ha:=(hpt a (by simp)).1
    have hc:=(hpt c (by simp)).1
    have hpos:=all_pos (split x).2
    have hz:Dat.all (Dat.list [a,c])=1+Dat.all a+(1+Dat.all c)+1:=by rw[zaG];simp only[wt];omega
    simp only[wt] at hsum
    rw[show pairsL (a::p.1) (c::p.2)=Dat.list [a,c]::pairsL p.1 p.2 from rfl]
    refine ⟨?_,?_,?_,?_⟩
    ·simp only[wt];omega
    ·intro y hy
     rcases List.mem_cons.1 hy with rfl | hy
     ·exact zcG fun z hz=>by
       rcases List.mem_cons.1 hz with rfl | hz
       ·exact ha
       ·rcases List.mem_cons.1 hz with rfl | hz
        ·exact hc
        ·simp at hz
     ·exact i2 y hy
    ·intro y hy
     simp only[wt]
     rcases List.mem_cons.1 hy with rfl | hy
     ·exact ⟨ha,by omega⟩
     ·have:=i3 y hy;exact ⟨this.1,by omega⟩
    ·intro y hy
     simp only[wt]
     rcases List.mem_cons.1 hy with rfl | hy
     ·exact ⟨hc,by omega⟩
     ·have:=i4 y hy;exact ⟨this.1,by omega⟩
   ·cases h
  ·cases h
theorem zho {x:Dat} {ns vs:List Dat} (h:binds x=some (ns,vs)) (hs:small x=true):small (pairs ns vs)=true∧(∀y∈ns,small y=true)∧(∀y∈vs,small y=true):=by
 obtain ⟨h1,h2⟩:=small_iff.1 hs
 unfold binds at h
 split at h
 ·have hsum:=zeg x h1
  obtain ⟨i1,i2,i3,i4⟩:=zdk h fun y hy=>((split_parts x h1).1 y hy).1
  have hpos:=all_pos (split x).2
  have hz:Dat.all (pairs ns vs)=wt (pairsL ns vs)+1:=zaG _
  exact ⟨small_iff.2 ⟨zcG i2,by omega⟩,fun y hy=>small_iff.2 ⟨(i3 y hy).1,by have:=(i3 y hy).2;omega⟩,fun y hy=>small_iff.2 ⟨(i4 y hy).1,by have:=(i4 y hy).2;omega⟩⟩
 ·cases h
theorem pairs_tail {x a c:Dat} {ns vs:List Dat} (h:binds x=some (a::ns,c::vs)) (hs:small x=true):small (pairs ns vs)=true∧binds (pairs ns vs)=some (ns,vs):=by
 have h1:=(zho h hs).1
 obtain ⟨h2,h3⟩:=small_iff.1 h1
 have hlen:ns.length=vs.length:=by
  unfold binds at h
  split at h
  ·have:=bindsL_len h;simp only[List.length_cons] at this;omega
  ·cases h
 refine ⟨?_,zey hlen⟩
 rw[show pairs (a::ns) (c::vs)=Dat.pair (Dat.list [a,c]) (pairs ns vs) from rfl,Dat.pair] at h2 h3
 simp only[Dat.shaped,Dat.shapedL,Bool.and_eq_true] at h2
 simp only[Dat.all,Dat.allL] at h3
 exact small_iff.2 ⟨h2.2.2.1,by omega⟩
theorem split_small {x:Dat} (hs:small x=true):∀y∈(split x).1,small y=true:=fun y hy=>by
 obtain ⟨h1,h2⟩:=small_iff.1 hs
 have:=(split_parts x h1).1 y hy
 exact small_iff.2 ⟨this.1,by omega⟩
theorem fresh_split {β:Type} {k:Dat→M β} {n:Nat} {r:Option (β × Nat)} (h:bnd fresh k n=some r):n≤1000000∧k (freshD (n+1)) (n+1)=some r:=by
 unfold bnd fresh at h
 by_cases hn:n≤1000000
 ·rw[if_pos hn] at h;exact ⟨hn,h⟩
 ·rw[if_neg hn] at h;cases h
end Sy
theorem zaM {W w:World} {B:Nat} (x:Dat) (v:Value) (h:RepD W B x v):Calls prog 72 #[v] w fun e w'=>e=.returned (.bool (Sy.isVar x))∧Below w.heap.size w w':=by
 obtain ⟨k,n,d,s,l⟩:=x
 obtain ⟨sl,rfl,_,_,_,_,o,len,cap,rfl,_⟩:=h.open
 exact zbH k n d s o len cap w _ rfl
theorem zdh {W w:World} {B:Nat} (x:Dat) (v:Value) (s:ByteArray) (h:RepD W B x v):Calls prog 74 #[v,.string s] w fun e w'=>e=.returned (.bool (Sy.isNm x s))∧Below w.heap.size w w':=by
 obtain ⟨k,n,d,st,l⟩:=x
 obtain ⟨sl,rfl,_,_,_,_,o,len,cap,rfl,_⟩:=h.open
 exact zjz k n d st s o len cap w _ rfl
theorem XS.bindings_some {S:Nat→Prop} {b H n:Nat} {w W:World} (hst:XS S b H n w W) (x:Dat) (v:Value) (ns vs:List Dat) (hb:Sy.binds x=some (ns,vs)) (hx:RepD (hide W (S1 S H)) W.heap.size x v) (hsm:Sy.small x=true):Calls prog 76 #[v] W fun e w'=>∃(o1:Option Addr) (len1 cap1:Nat) (o2:Option Addr) (len2 cap2:Nat),e=.returned (.tuple #[.slice o1 len1 cap1,.slice o2 len2 cap2,.bool true])∧(Sp.row (some ns)).holds (S1 S H) (.slice o1 len1 cap1) w'∧(Sp.row (some vs)).holds (S1 S H) (.slice o2 len2 cap2) w'∧len1=ns.length∧len2=vs.length∧Below W.heap.size W w':=by
 obtain ⟨h1,h2⟩:=Sy.small_iff.1 hsm
 refine (hst.bindings x v hx h1 h2).mono ?_
 rintro e w' ⟨ln,lv,vn,vv,ok,rfl,hg1,hg2,hb1,hok1,hok2⟩
 cases ok with
 | false=>rw[hok2 rfl] at hb;cases hb
 | true=>
  rw[hok1 rfl] at hb
  obtain ⟨rfl,rfl⟩:=Prod.mk.inj (Option.some.inj hb)
  obtain ⟨o1,len1,cap1,rfl,h3,_⟩:=Sp.slice hg1
  obtain ⟨o2,len2,cap2,rfl,h4,_⟩:=Sp.slice hg2
  exact ⟨o1,len1,cap1,o2,len2,cap2,rfl,hg1,hg2,h3,h4,hb1⟩
theorem XS.bindings_none {S:Nat→Prop} {b H n:Nat} {w W:World} (hst:XS S b H n w W) (x:Dat) (v:Value) (hb:Sy.binds x=none) (hx:RepD (hide W (S1 S H)) W.heap.size x v) (hsm:Sy.small x=true):Calls prog 76 #[v] W fun e w'=>∃vn vv,e=.returned (.tuple #[vn,vv,.bool false])∧Below W.heap.size W w':=by
 obtain ⟨h1,h2⟩:=Sy.small_iff.1 hsm
 refine (hst.bindings x v hx h1 h2).mono ?_
 rintro e w' ⟨ln,lv,vn,vv,ok,rfl,hg1,hg2,hb1,hok1,hok2⟩
 cases ok with
 | false=>exact ⟨vn,vv,rfl,hb1⟩
 | true=>rw[hok1 rfl] at hb;cases hb
theorem XS.stored {S:Nat→Prop} {b H n m:Nat} {w W W5 W6:World} {x:Dat} {k n1 d:Int} {s:ByteArray} {o:Option Addr} {len cap:Nat} (hst:XS S b H n w W) (ht:Turned (fun c=>c=b) W W5) (hx:XP W5 b m) (hr:RepD (hide W5 (S1 S H)) W5.heap.size x (.agg #[.int .i64 k,.int .i64 n1,.int .i64 d,.string s,.slice o len cap])) (hW:W5.alloc (.cells #[.int .i64 k,.int .i64 n1,.int .i64 d,.string s,.slice o len cap] 26)=W6):XS S b H m w W6∧(Sp.elm (some x)).holds (S1 S H) (.pointer (some ⟨W5.heap.size,0,none⟩)) W6∧Turned (fun c=>c=b) W W6:=by
 have hone:Below W5.heap.size W5 W6:=by rw[←hW];exact Below.one _ _
 have hst5:=hst.next ht hx
 have hbn:Box5 W6 W5.heap.size 26 (.int .i64 k) (.int .i64 n1) (.int .i64 d) (.string s) (.slice o len cap):=by rw[←hW];exact Box5.new _ _ _ _ _ _ _
 exact ⟨hst5.below hone,Sp.box hbn (hr.shown (Shown.below hone) hone.size) (fun h=>by have:=hst5.lt _ h;omega),ht.next (Turned.of_below hone)⟩
theorem Sp.nth {S:Nat→Prop} {l:List Dat} {x:Dat} {o:Option Addr} {len cap j:Nat} {W:World} (h:(Sp.row (some l)).holds S (.slice o len cap) W) (hx:l[j]?=some x):∃c off,o=some ⟨c,off,none⟩∧(Sp.elm (some x)).holds S (.pointer (some ⟨c,off+j*5,none⟩)) W:=by
 obtain ⟨p,len',cap',hs,hlen,hcap,hmax,hc⟩:=Sp.data h
 simp only[Value.slice.injEq] at hs
 obtain ⟨rfl,rfl,rfl⟩:=hs
 obtain ⟨c,off,k1,n1,d1,s1,l1,o1,len1,cap1,ho1,hx1,e0,e1,e2,e3,e4,er⟩:=zay hc (Below.refl _ _) hx
 exact ⟨c,off,ho1,x,c,off+j*5,k1,n1,d1,s1,o1,len1,cap1,rfl,rfl,e0,e1,e2,e3,e4,by rw[hx1];exact er⟩
end
section
open Go Go.RowKit
theorem zhb (S:Nat→Prop) (b n:Nat) (x:Dat) (xv:Value) (l:List Dat) (sl:Value) (w:World) (hbi:Sy.binds x=none) (hS:∀c,S c→c<w.heap.size) (hb:S b) (hx:XP w b n) (hV:Env w) (hxv:RepD (hide w S) w.heap.size x xv) (hsm:Sy.small x=true) (hv:RepS (hide w S) w.heap.size l sl) :
  Calls prog 107 #[.pointer (some ⟨b,0,none⟩),xv,sl] w (XRes S b none w):=by
 obtain ⟨k1,m1,d1,s1,o1,len1,cap1,rfl⟩:=zae hxv.unhide
 obtain ⟨W0,hW0,hst,he1⟩:=zbt hS hb hx hV hxv
 have HST:=zh hst
 have HW0:=zh hW0
 have HE1:=zh he1
 have HLV:=zh (hst.first (Sp.ofS hv))
 have HHXV:=zh (hst.first (Sp.ofD hxv))
 obtain ⟨k,m,d,st,o,len,cap,hxr,q0,q1,q2,q3,q4,ql⟩:=Sp.cells he1
 have HC:=zh (hst.bindings_none x _ hbi hxr hsm)
 have HBI:=zh hbi
 have HSM:=zh hsm
 clear hst he1 hW0  hv hxv hS hb hx hV hxr hsm hbi
 go_enter func107,ntmps107
 go_upto_region 1 with fail
 rw[HW0.out]
 go_wp2_with (first | (go_at_call 76;refine HC.out.mono ?_;rintro e' w1 ⟨vn,vv,rfl,hb1⟩) | (go_at_call 30;refine (zaf _).mono ?_;rintro e' wN ⟨rfl,rfl⟩) | fail)
 exact ⟨rfl,HST.out.bad' (Turned.of_below hb1)⟩
theorem zjd {E:Dat→Sy.M Dat} {L:Dat→List Dat→Sy.M Dat} (hE:EOk E) (hL:LOk L) (S:Nat→Prop) (b n:Nat) (x:Dat) (xv:Value) (l:List Dat) (sl:Value) (w:World) (r:Option (Dat × Nat)) (hr:Sy.letF E L [] [] l n=some r) (hbi:Sy.binds x=some ([],[])) (hS:∀c,S c→c<w.heap.size) (hb:S b) (hx:XP w b n) (hV:Env w) (hxv:RepD (hide w S) w.heap.size x xv) (hsm:Sy.small x=true) (hv:RepS (hide w S) w.heap.size l sl) :
  Calls prog 107 #[.pointer (some ⟨b,0,none⟩),xv,sl] w (XRes S b r w):=by
 obtain ⟨k1,m1,d1,s1,o1,len1,cap1,rfl⟩:=zae hxv.unhide
 obtain ⟨W0,hW0,hst,he1⟩:=zbt hS hb hx hV hxv
 have HST:=zh hst
 have HW0:=zh hW0
 have HE1:=zh he1
 have HL:=zh hL
 have HE:=zh hE
 have HLV:=zh (hst.first (Sp.ofS hv))
 have HHXV:=zh (hst.first (Sp.ofD hxv))
 obtain ⟨k,m,d,st,o,len,cap,hxr,q0,q1,q2,q3,q4,ql⟩:=Sp.cells he1
 have HC:=zh (hst.bindings_some x _ _ _ hbi hxr hsm)
 have HBI:=zh hbi
 have HSM:=zh hsm
 clear hst he1 hW0 hL hE hv hxv hS hb hx hV hxr hsm hbi
 go_enter func107,ntmps107
 go_upto_region 1 with fail
 rw[HW0.out]
 have HR:=zh hr
 clear hr
 go_upto_region 4 with (first | (go_at_call 76;refine HC.out.mono ?_;rintro e' w1 ⟨on,lenn,capn,ov,lenv,capv,rfl,hg1,hg2,rfl,rfl,hb1⟩) | (go_at_call 30;refine (zag _).mono ?_;rintro e' wN ⟨⟨vN,rfl⟩,rfl⟩) | fail)
 have HST3:=zh (HST.out.below hb1)
 have HX3:=zh (Sp.below HE1.out hb1)
 have HL3:=zh (Sp.below HLV.out hb1)
 have HP1:=zh (show ∃p1,r=p1∧Sy.letF E L [] [] l n=some p1 from ⟨r,rfl,HR.out⟩)
 clear hg1 hg2 hb1 q0 q1 q2 q3 q4 ql
 obtain ⟨p1,hp1,hp2⟩:=HP1.out
 clear HP1
 have HP1:=zh hp2
 have HRF:=zh hp1
 have HNp1:=zh (show p1=none→r=none from fun h=>by rw[hp1];exact h)
 clear hp1 hp2
 refine zad (dr:=false) (S:=S) (b:=b) (H:=(w.heap.size+1)) 4 [3] (fun j=>[n,cnt p1].getD j 0) [.val (.pointer (some ⟨b,0,none⟩)),.dat (some (x)),.row (some (l)),.dat (p1.map (·.1))] HST3.out (by show zB _ _ 4 46=true;kernel_rfl) (by decide) (by decide) (by kernel_rfl) ?hops ?hcall ?hend
 case hops=>
  intro i o8 hi hip ho a8 w8 hdf hlt8 ht8 hdep hrest
  match i,hi,hip with
  | 0,_,_=>cases ho;exact zab rfl (Sp.at hrest 0 (by kernel_rfl) (rfl) (.inl HST3.out.own) ht8)
  | 1,_,_=>cases ho;exact zak rfl (Sp.at hrest 4 (by kernel_rfl) (HX3.out) (.inl HST3.out.own) ht8)
  | 2,_,_=>cases ho;exact zab rfl (Sp.at hrest 2 (by kernel_rfl) (HL3.out) (.inl HST3.out.own) ht8)
  | 3,_,h=>exact absurd (by decide) h
  | i+4,hi,_=>exact absurd hi (by omega)
 case hcall=>
  intro j i o8 hj ho a8 w8 hdf hst8 ht8 hdep hprev hrest
  match j,hj with
  | 0,hj=>
   cases hj;cases ho
   have hv0:a8.tmps.getD 21 undef=.pointer (some ⟨b,0,none⟩):=(Sp.dep hdep 0 21 (by kernel_rfl))
   refine zaE (p:=p1) (vals:=#[.pointer (some ⟨b,0,none⟩),a8.tmps.getD 22 undef,a8.tmps.getD 23 undef]) rfl (by simp only[List.map_toArray,List.map_cons,List.map_nil];rw[←hv0];rfl) (fun _ _=>rfl) (zh9 HE.out HL.out (S1 S (w.heap.size+1)) b _ x _ l _ w8 p1 (by rw[HBI.out];exact HP1.out) hst8.lt (.inl hst8.own) hst8.hx hst8.hE (Sp.datum (Sp.dep hdep 1 22 (by kernel_rfl))) (Sy.small_iff.1 HSM.out).1 (Sy.small_iff.1 HSM.out).2 (Sp.data (Sp.dep hdep 2 23 (by kernel_rfl)))) fun hp w9 ht9=>?_
   have hrn:=HNp1.out hp
   subst hrn
   exact ⟨hdf,hst8.bad' ht9⟩
  | _+1,hj=>simp at hj
 case hend=>
  intro a8 w8 hdf hsz hst8 ht8 hval hrest
  refine fin_s (r:=r) hst8 (hval 3 _ 24 (by omega) rfl rfl) (fun x8 hx8=>?_) ((hrest.at 6 (by kernel_rfl)).trans rfl) hdf rfl results107 fun w9 h9=>?_
  ·clear hval hrest hdf hsz hst8 ht8
   rcases p1 with _ | ⟨y1,n1⟩
   ·simp at hx8
   cases hx8
   exact HRF.out
  ·go_wp2_with fail
theorem zgV {E:Dat→Sy.M Dat} {L:Dat→List Dat→Sy.M Dat} (hE:EOk E) (ns vs:List Dat)
  (ih:∀(S:Nat→Prop) (b n:Nat) (x:Dat) (xv:Value) (l:List Dat) (sl:Value) (w:World) (r:Option (Dat × Nat)),Sy.chainF E L ns vs l n=some r→Sy.binds x=some (ns,vs)→(∀c,S c→c<w.heap.size)→S b→XP w b n→Env w→RepD (hide w S) w.heap.size x xv→Sy.small x=true→RepS (hide w S) w.heap.size l sl→Calls prog 107 #[.pointer (some ⟨b,0,none⟩),xv,sl] w (XRes S b r w))
  (S:Nat→Prop) (b n:Nat) (a c x:Dat) (xv:Value) (l:List Dat) (sl:Value) (w:World) (r:Option (Dat × Nat)) (hr:Sy.chainF E L (a::ns) (c::vs) l n=some r) (hbi:Sy.binds x=some (a::ns,c::vs)) (hS:∀c,S c→c<w.heap.size) (hb:S b) (hx:XP w b n) (hV:Env w) (hxv:RepD (hide w S) w.heap.size x xv) (hsm:Sy.small x=true) (hv:RepS (hide w S) w.heap.size l sl) :
  Calls prog 107 #[.pointer (some ⟨b,0,none⟩),xv,sl] w (XRes S b r w):=by
 obtain ⟨k1,m1,d1,s1,o1,len1,cap1,rfl⟩:=zae hxv.unhide
 obtain ⟨W0,hW0,hst,he1⟩:=zbt hS hb hx hV hxv
 have HST:=zh hst
 have HW0:=zh hW0
 have HE1:=zh he1
 have HE:=zh hE
 have HLV:=zh (hst.first (Sp.ofS hv))
 have HHXV:=zh (hst.first (Sp.ofD hxv))
 obtain ⟨k,m,d,st,o,len,cap,hxr,q0,q1,q2,q3,q4,ql⟩:=Sp.cells he1
 have HC:=zh (hst.bindings_some x _ _ _ hbi hxr hsm)
 have HBI:=zh hbi
 have HSM:=zh hsm
 clear hst he1 hW0 hE hv hxv hS hb hx hV hxr hsm hbi
 go_enter func107,ntmps107
 go_upto_region 1 with fail
 rw[HW0.out]
 have HR:=zh (Sy.need_split (show Sy.need (Sy.isVar a) (Sy.bnd (Sy.chainF E L ns vs l) fun q=>Sy.over E a q c) n=some r from hr))
 have HIH:=zh ih
 clear hr ih
 go_upto_region 3 with (first | (go_at_call 76;refine HC.out.mono ?_;rintro e' w1 ⟨on,lenn,capn,ov,lenv,capv,rfl,hg1,hg2,hl1,hl2,hb1⟩;have HL1:=zh hl1;clear hl1 hl2) | (go_at_call 30;refine (zag _).mono ?_;rintro e' wN ⟨⟨vN,rfl⟩,rfl⟩) | fail)
 have HST3:=zh (HST.out.below hb1)
 have HX3:=zh (Sp.below HE1.out hb1)
 have HL3:=zh (Sp.below HLV.out hb1)
 have HG1:=zh hg1
 have HG2:=zh hg2
 have ht1:(lenn==0)=false:=by rw[HL1.out];rfl
 have ht2:¬lenn=0:=by rw[HL1.out];simp
 have ht3:((lenn:Int)==0)=false:=by simp[ht2]
 have ht4:0<lenn:=by omega
 have HLE:=zh (show ns.length=vs.length∧ns.length≤100000 from by
  have h1:=Sy.binds_len HBI.out
  have h2:=(Sy.small_iff.1 HSM.out).2
  have h3:=HBI.out
  simp only[List.length_cons] at h1
  unfold Sy.binds at h3
  split at h3
  ·have:=Sy.bindsL_len h3
   simp only[List.length_cons] at this
   omega
  ·cases h3)
 obtain ⟨c1,off1,rfl,hel⟩:=Sp.nth (j:=0) hg1 rfl
 obtain ⟨k3,m3,d3,st3,o3,len3,cap3,hxr,e0,e1,e2,e3,e4,el⟩:=Sp.cells hel
 simp only[Nat.zero_mul,Nat.add_zero] at e0 e1 e2 e3 e4
 have HVA:=zh (fun w=>zaM (w:=w) a _ hxr)
 clear hg1 hg2 hb1 q0 q1 q2 q3 q4 ql hel hxr
 obtain ⟨va,hva⟩:∃va,Sy.isVar a=va:=⟨_,rfl⟩
 rw[hva] at HVA HR
 clear hva
 cases va
 ·have hrn:=HR.out.1 (by trivial)
  subst hrn
  go_wp2_with (first | (go_at_call 72;refine (HVA.out _).mono ?_;rintro e' w2 ⟨rfl,hb2⟩) | (go_at_call 30;refine (zaf _).mono ?_;rintro e' wN ⟨rfl,rfl⟩) | fail)
  exact ⟨rfl,HST3.out.bad' (Turned.of_below hb2)⟩
 ·go_upto_region 6 with (first | (go_at_call 72;refine (HVA.out _).mono ?_;rintro e' w2 ⟨rfl,hb2⟩) | (go_at_call 30;refine (zag _).mono ?_;rintro e' wN ⟨⟨vN,rfl⟩,rfl⟩) | fail)
  have HST6:=zh (HST3.out.below hb2)
  have HL6:=zh (Sp.below HL3.out hb2)
  have HN6:=zh (Sp.below HG1.out hb2)
  have HV6:=zh (Sp.below HG2.out hb2)
  obtain ⟨p1,hp1,hn1,hk⟩:=Sy.bnd_split (HR.out.2 (by trivial))
  obtain ⟨p2,hp2⟩:∃p2,r=p2:=⟨_,rfl⟩
  have HP1:=zh hp1
  have HNp1:=zh hn1
  have HP2:=zh (show ∀y n',p1=some (y,n')→Sy.over E a y c n'=some p2 from by rw[←hp2];exact hk)
  have HNp2:=zh (show p2=none→r=none from fun h=>by rw[hp2];exact h)
  have HRF:=zh hp2
  clear hb2 hp1 hn1 hk hp2 ht1 ht2 ht3 ht4 e0 e1 e2 e3 e4 el
  refine zad (dr:=true) (S:=S) (b:=b) (H:=(w.heap.size+1)) 16 [11,15] (fun j=>[n,cnt p1,cnt p2].getD j 0) [.val (.pointer (some ⟨b,0,none⟩)),.row (some (a::ns)),.elm (some (a)),.dat (some (a)),.val (.pointer (some ⟨b,0,none⟩)),.row (some (a::ns)),.row (some (ns)),.row (some (c::vs)),.row (some (vs)),.dat (some (Sy.pairs ns vs)),.row (some (l)),.dat (p1.map (·.1)),.row (some (c::vs)),.elm (some (c)),.dat (some (c)),.dat (p2.map (·.1))] HST6.out (by show zB _ _ 16 46=true;kernel_rfl) (by decide) (by decide) (by kernel_rfl) ?hops ?hcall ?hend
  case hops=>
   intro i o8 hi hip ho a8 w8 hdf hlt8 ht8 hdep hrest
   match i,hi,hip with
   | 0,_,_=>cases ho;exact zab rfl (Sp.at hrest 0 (by kernel_rfl) (rfl) (.inl HST6.out.own) ht8)
   | 1,_,_=>cases ho;exact zab rfl (Sp.at hrest 7 (by kernel_rfl) (HN6.out) (.inl HST6.out.own) ht8)
   | 2,_,_=>cases ho;exact zar (k:=0) rfl (Sp.dep hdep 1 31 (by kernel_rfl)) rfl (by decide)
   | 3,_,_=>cases ho;exact zak rfl (Sp.dep hdep 2 32 (by kernel_rfl))
   | 4,_,_=>cases ho;exact zab rfl (Sp.at hrest 0 (by kernel_rfl) (rfl) (.inl HST6.out.own) ht8)
   | 5,_,_=>cases ho;exact zab rfl (Sp.at hrest 7 (by kernel_rfl) (HN6.out) (.inl HST6.out.own) ht8)
   | 6,_,_=>cases ho;exact zaz (k:=1) rfl (Sp.dep hdep 5 35 (by kernel_rfl)) (by decide) (by simp) (by decide)
   | 7,_,_=>cases ho;exact zab rfl (Sp.at hrest 8 (by kernel_rfl) (HV6.out) (.inl HST6.out.own) ht8)
   | 8,_,_=>cases ho;exact zaz (k:=1) rfl (Sp.dep hdep 7 37 (by kernel_rfl)) (by decide) (by simp) (by decide)
   | 9,_,_=>cases ho;exact zcT rfl (Sp.dep hdep 6 36 (by kernel_rfl)) (Sp.dep hdep 8 38 (by kernel_rfl)) (HLE.out.1) (HLE.out.2) hlt8
   | 10,_,_=>cases ho;exact zab rfl (Sp.at hrest 2 (by kernel_rfl) (HL6.out) (.inl HST6.out.own) ht8)
   | 11,_,h=>exact absurd (by decide) h
   | 12,_,_=>cases ho;exact zab rfl (Sp.at hrest 8 (by kernel_rfl) (HV6.out) (.inl HST6.out.own) ht8)
   | 13,_,_=>cases ho;exact zar (k:=0) rfl (Sp.dep hdep 12 42 (by kernel_rfl)) rfl (by decide)
   | 14,_,_=>cases ho;exact zak rfl (Sp.dep hdep 13 43 (by kernel_rfl))
   | 15,_,h=>exact absurd (by decide) h
   | i+16,hi,_=>exact absurd hi (by omega)
  case hcall=>
   intro j i o8 hj ho a8 w8 hdf hst8 ht8 hdep hprev hrest
   match j,hj with
   | 0,hj=>
    cases hj;cases ho
    have hv0:a8.tmps.getD 34 undef=.pointer (some ⟨b,0,none⟩):=(Sp.dep hdep 4 34 (by kernel_rfl))
    refine zaE (p:=p1) (vals:=#[.pointer (some ⟨b,0,none⟩),a8.tmps.getD 39 undef,a8.tmps.getD 40 undef]) rfl (by simp only[List.map_toArray,List.map_cons,List.map_nil];rw[←hv0];rfl) (fun _ _=>rfl) (HIH.out (S1 S (w.heap.size+1)) b _ (Sy.pairs ns vs) _ l _ w8 p1 HP1.out (Sy.pairs_tail HBI.out HSM.out).2 hst8.lt (.inl hst8.own) hst8.hx hst8.hE (Sp.datum (Sp.dep hdep 9 39 (by kernel_rfl))) (Sy.pairs_tail HBI.out HSM.out).1 (Sp.data (Sp.dep hdep 10 40 (by kernel_rfl)))) fun hp w9 ht9=>?_
    have hrn:=HNp1.out hp
    subst hrn
    exact ⟨hdf,hst8.bad' ht9⟩
   | 1,hj=>
    cases hj;cases ho
    obtain ⟨y1,m1,hq1,hy1⟩:=Sp.got (Sp.dep hdep 11 41 (by kernel_rfl))
    have hv0:a8.tmps.getD 30 undef=.pointer (some ⟨b,0,none⟩):=(Sp.dep hdep 0 30 (by kernel_rfl))
    refine zaE (p:=p2) (vals:=#[.pointer (some ⟨b,0,none⟩),a8.tmps.getD 33 undef,a8.tmps.getD 41 undef,a8.tmps.getD 44 undef]) rfl (by simp only[List.map_toArray,List.map_cons,List.map_nil];rw[←hv0];rfl) (fun _ _=>rfl) (zb6 HE.out (S1 S (w.heap.size+1)) b (cnt p1) a y1 c _ _ _ w8 p2 (by rw[hq1];exact HP2.out y1 m1 hq1) hst8.lt (.inl hst8.own) hst8.hx hst8.hE (Sp.datum (Sp.dep hdep 3 33 (by kernel_rfl))) hy1 (Sp.datum (Sp.dep hdep 14 44 (by kernel_rfl)))) fun hp w9 ht9=>?_
    have hrn:=HNp2.out hp
    subst hrn
    exact ⟨hdf,hst8.bad' ht9⟩
   | _+2,hj=>simp at hj
  case hend=>
   intro a8 w8 hdf hsz hst8 ht8 hval hrest
   refine fin_s (r:=r) hst8 (hval 15 _ 45 (by omega) rfl rfl) (fun x8 hx8=>?_) ((hrest.at 6 (by kernel_rfl)).trans rfl) hdf rfl results107 fun w9 h9=>?_
   ·clear hval hrest hdf hsz hst8 ht8
    rcases p2 with _ | ⟨y2,n2⟩
    ·simp at hx8
    rcases p1 with _ | ⟨y1,n1⟩
    ·exact absurd (HRF.out.symm.trans (HNp1.out rfl)) (by simp)
    cases hx8
    exact HRF.out
   ·go_wp2_with fail
theorem ziJ {E:Dat→Sy.M Dat} {L:Dat→List Dat→Sy.M Dat} (hE:EOk E) (hL:LOk L):∀(ns vs:List Dat) (S:Nat→Prop) (b n:Nat) (x:Dat) (xv:Value) (l:List Dat) (sl:Value) (w:World) (r:Option (Dat × Nat)),Sy.chainF E L ns vs l n=some r→Sy.binds x=some (ns,vs)→(∀c,S c→c<w.heap.size)→S b→XP w b n→Env w→RepD (hide w S) w.heap.size x xv→Sy.small x=true→RepS (hide w S) w.heap.size l sl→Calls prog 107 #[.pointer (some ⟨b,0,none⟩),xv,sl] w (XRes S b r w):=by
 intro ns
 induction ns with
 | nil=>
  intro vs S b n x xv l sl w r hr hbi hS hb hx hV hxv hsm hv
  have hvs:vs=[]:=by
   unfold Sy.binds at hbi
   split at hbi
   ·have:=Sy.bindsL_len hbi
    exact List.length_eq_zero_iff.1 (by rw[this.2,←this.1];rfl)
   ·cases hbi
  subst hvs
  exact zjd hE hL S b n x xv l sl w r hr hbi hS hb hx hV hxv hsm hv
 | cons a ns ih=>
  intro vs S b n x xv l sl w r hr hbi hS hb hx hV hxv hsm hv
  match vs,hr,hbi with
  | [],hr,hbi=>
   exfalso
   unfold Sy.binds at hbi
   split at hbi
   ·have h1:=Sy.bindsL_len hbi
    simp only[List.length_cons,List.length_nil] at h1
    omega
   ·cases hbi
  | c::vs,hr,hbi=>exact zgV hE ns vs (ih vs) S b n a c x xv l sl w r hr hbi hS hb hx hV hxv hsm hv
end
section
open Go Go.RowKit
theorem zld (S:Nat→Prop) (b n:Nat) (sl:Value) (w:World) (r:Option (Dat × Nat)) (hr:Sy.ret (Sy.truth 1) n=some r) (hS:∀c,S c→c<w.heap.size) (hb:S b) (hx:XP w b n) (hV:Env w) (hv:RepS (hide w S) w.heap.size [] sl) :
  Calls prog 110 #[.pointer (some ⟨b,0,none⟩),.string ⟨#[97,110,100]⟩,sl] w (XRes S b r w):=by
 obtain ⟨o,len,cap,rfl,hln,hcp⟩:=Sp.slice (Sp.ofS hv)
 obtain ⟨W0,hW0,hst⟩:=zat hS hb hx hV
 have HST:=zh hst
 have HW0:=zh hW0
 obtain rfl:len=0:=by rw[hln];rfl
 have HLV:=zh (hst.first (Sp.ofS hv))
 have HR:=zh hr
 clear hst hW0 hv hS hb hx hV hr hln hcp
 go_enter func110,ntmps110
 go_upto_region 1 with fail
 rw[HW0.out]
 go_upto_region 4 with fail
 refine zad (dr:=false) (S:=S) (b:=b) (H:=w.heap.size) 1 [] (fun j=>[n].getD j 0) [.dat (some (Sy.truth 1))] HST.out (by show zB _ _ 1 146=true;kernel_rfl) (by decide) (by decide) (by kernel_rfl) ?hops ?hcall ?hend
 case hops=>
  intro i o8 hi hip ho a8 w8 hdf hlt8 ht8 hdep hrest
  match i,hi,hip with
  | 0,_,_=>cases ho;exact zdG rfl (by omega) hlt8
  | i+1,hi,_=>exact absurd hi (by omega)
 case hcall=>
  intro j i o8 hj ho a8 w8 hdf hst8 ht8 hdep hprev hrest
  simp at hj
 case hend=>
  intro a8 w8 hdf hsz hst8 ht8 hval hrest
  refine fin_s (r:=r) hst8 (hval 0 _ 15 (by omega) rfl rfl) (fun x8 hx8=>?_) ((hrest.at 6 (by kernel_rfl)).trans rfl) hdf rfl results110 fun w9 h9=>?_
  ·clear hval hrest hdf hsz hst8 ht8
   cases hx8
   exact Sy.ret_split HR.out
  ·go_wp2_with fail
theorem zle {E:Dat→Sy.M Dat} (hE:EOk E) (x:Dat) (S:Nat→Prop) (b n:Nat) (sl:Value) (w:World) (r:Option (Dat × Nat)) (hr:E x n=some r) (hS:∀c,S c→c<w.heap.size) (hb:S b) (hx:XP w b n) (hV:Env w) (hv:RepS (hide w S) w.heap.size [x] sl) :
  Calls prog 110 #[.pointer (some ⟨b,0,none⟩),.string ⟨#[97,110,100]⟩,sl] w (XRes S b r w):=by
 obtain ⟨o,len,cap,rfl,hln,hcp⟩:=Sp.slice (Sp.ofS hv)
 obtain ⟨W0,hW0,hst⟩:=zat hS hb hx hV
 have HST:=zh hst
 have HW0:=zh hW0
 obtain rfl:len=1:=by rw[hln];rfl
 have HLV:=zh (hst.first (Sp.ofS hv))
 have HR:=zh hr
 have HE:=zh hE
 clear hst hW0 hv hS hb hx hV hr hln hcp hE
 go_enter func110,ntmps110
 go_upto_region 1 with fail
 rw[HW0.out]
 go_upto_region 7 with fail
 obtain ⟨p1,hp1⟩:∃p1,r=p1:=⟨_,rfl⟩
 have HP1:=zh (show E x n=some p1 from by rw[←hp1];exact HR.out)
 have HNp1:=zh (show p1=none→r=none from fun h=>by rw[hp1];exact h)
 have HRF:=zh hp1
 clear hp1
 refine zad (dr:=false) (S:=S) (b:=b) (H:=w.heap.size) 5 [4] (fun j=>[n,cnt p1].getD j 0) [.val (.pointer (some ⟨b,0,none⟩)),.row (some (x::[])),.elm (some (x)),.dat (some (x)),.dat (p1.map (·.1))] HST.out (by show zB _ _ 5 146=true;kernel_rfl) (by decide) (by decide) (by kernel_rfl) ?hops ?hcall ?hend
 case hops=>
  intro i o8 hi hip ho a8 w8 hdf hlt8 ht8 hdep hrest
  match i,hi,hip with
  | 0,_,_=>cases ho;exact zab rfl (Sp.at hrest 0 (by kernel_rfl) (rfl) (.inl HST.out.own) ht8)
  | 1,_,_=>cases ho;exact zab rfl (Sp.at hrest 2 (by kernel_rfl) (HLV.out) (.inl HST.out.own) ht8)
  | 2,_,_=>cases ho;exact zar (k:=0) rfl (Sp.dep hdep 1 33 (by kernel_rfl)) rfl (by decide)
  | 3,_,_=>cases ho;exact zak rfl (Sp.dep hdep 2 34 (by kernel_rfl))
  | 4,_,h=>exact absurd (by decide) h
  | i+5,hi,_=>exact absurd hi (by omega)
 case hcall=>
  intro j i o8 hj ho a8 w8 hdf hst8 ht8 hdep hprev hrest
  match j,hj with
  | 0,hj=>
   cases hj;cases ho
   refine zaK (p:=p1) rfl (Sp.dep hdep 0 32 (by kernel_rfl)) (fun _ _=>rfl) (HE.out (S1 S w.heap.size) b (_) x _ w8 p1 (HP1.out) hst8.lt (.inl hst8.own) hst8.hx hst8.hE (Sp.datum (Sp.dep hdep 3 35 (by kernel_rfl)))) fun hp w9 ht9=>?_
   cases HNp1.out hp;exact ⟨hdf,hst8.bad' ht9⟩
  | _+1,hj=>simp at hj
 case hend=>
  intro a8 w8 hdf hsz hst8 ht8 hval hrest
  refine fin_s (r:=r) hst8 (hval 4 _ 36 (by omega) rfl rfl) (fun x8 hx8=>?_) ((hrest.at 6 (by kernel_rfl)).trans rfl) hdf rfl results110 fun w9 h9=>?_
  ·clear hval hrest hdf hsz hst8 ht8
   rcases p1 with _ | ⟨y1,n1⟩
   ·simp at hx8
   cases hx8
   exact HRF.out
  ·go_wp2_with fail
theorem zkE {E:Dat→Sy.M Dat} (hE:EOk E) (x y:Dat) (t:List Dat) (ih:∀(S:Nat→Prop) (b n:Nat) (sl:Value) (w:World) (r:Option (Dat × Nat)),Sy.andF E (y::t) n=some r→(∀c,S c→c<w.heap.size)→S b→XP w b n→Env w→RepS (hide w S) w.heap.size (y::t) sl→Calls prog 110 #[.pointer (some ⟨b,0,none⟩),.string ⟨#[97,110,100]⟩,sl] w (XRes S b r w)) (S:Nat→Prop) (b n:Nat) (sl:Value) (w:World) (r:Option (Dat × Nat)) (hr:Sy.andF E (x::y::t) n=some r) (hS:∀c,S c→c<w.heap.size) (hb:S b) (hx:XP w b n) (hV:Env w) (hv:RepS (hide w S) w.heap.size (x::y::t) sl) :
  Calls prog 110 #[.pointer (some ⟨b,0,none⟩),.string ⟨#[97,110,100]⟩,sl] w (XRes S b r w):=by
 obtain ⟨o,len,cap,rfl,hln,hcp⟩:=Sp.slice (Sp.ofS hv)
 obtain ⟨W0,hW0,hst⟩:=zat hS hb hx hV
 have HST:=zh hst
 have HW0:=zh hW0
 have hge:2≤len:=by rw[hln];simp
 have ht0a:((len:Int)==0)=false:=by simp;omega
 have ht0b:¬len=0:=by omega
 have ht1a:((len:Int)==1)=false:=by simp;omega
 have ht1b:¬len=1:=by omega
 have ht9a:decide ((len:Int) > 1)=true:=by simp;omega
 have ht9b:1<len:=by omega
 have ht9c:((1:Int)<len):=by omega
 have HLV:=zh (hst.first (Sp.ofS hv))
 have HR:=zh hr
 have HE:=zh hE
 have IH:=zh ih
 clear hst hW0 hv hS hb hx hV hr hln hcp hge hE ih
 go_enter func110,ntmps110
 go_upto_region 1 with fail
 rw[HW0.out]
 go_upto_region 6 with fail
 obtain ⟨p1,hp1,hn1,hk1⟩:=Sy.bnd_split (show Sy.bnd (E x) (fun a=>Sy.bnd (Sy.andF E (y::t)) fun b=>Sy.ret (Sy.form Sy.ifB [a,b,Sy.truth 0])) n=some r from HR.out)
 obtain ⟨p2,hp2,hq2,hn2,hk2⟩:=Sy.bnd_next hn1 hk1
 have HP1:=zh hp1
 have HNp1:=zh hn1
 have HP2:=zh (show ∀u7 n7,p1=some (u7,n7)→Sy.andF E (y::t) n7=some p2 from hp2)
 have HNp2:=zh hn2
 have HRF:=zh hk2
 clear hp1 hn1 hk1 hp2 hq2 hn2 hk2
 refine zad (dr:=true) (S:=S) (b:=b) (H:=w.heap.size) 13 [4,9] (fun j=>[n,cnt p1,cnt p2].getD j 0) [.val (.pointer (some ⟨b,0,none⟩)),.row (some (x::y::t)),.elm (some (x)),.dat (some (x)),.dat (p1.map (·.1)),.val (.pointer (some ⟨b,0,none⟩)),.val (.string ⟨#[97,110,100]⟩),.row (some (x::y::t)),.row (some (y::t)),.dat (p2.map (·.1)),.dat (some (Sy.truth 0)),.row ((p1.map (·.1)).bind fun u0_30=>(p2.map (·.1)).bind fun u1_30=>(some (Sy.truth 0)).bind fun u2_30=>some [u0_30,u1_30,u2_30]),.dat (((p1.map (·.1)).bind fun u0_30=>(p2.map (·.1)).bind fun u1_30=>(some (Sy.truth 0)).bind fun u2_30=>some [u0_30,u1_30,u2_30]).map (Sy.form ⟨#[105,102]⟩))] HST.out (by show zB _ _ 13 146=true;kernel_rfl) (by decide) (by decide) (by kernel_rfl) ?hops ?hcall ?hend
 case hops=>
  intro i o8 hi hip ho a8 w8 hdf hlt8 ht8 hdep hrest
  match i,hi,hip with
  | 0,_,_=>cases ho;exact zab rfl (Sp.at hrest 0 (by kernel_rfl) (rfl) (.inl HST.out.own) ht8)
  | 1,_,_=>cases ho;exact zab rfl (Sp.at hrest 2 (by kernel_rfl) (HLV.out) (.inl HST.out.own) ht8)
  | 2,_,_=>cases ho;exact zar (k:=0) rfl (Sp.dep hdep 1 20 (by kernel_rfl)) rfl (by decide)
  | 3,_,_=>cases ho;exact zak rfl (Sp.dep hdep 2 21 (by kernel_rfl))
  | 4,_,h=>exact absurd (by decide) h
  | 5,_,_=>cases ho;exact zab rfl (Sp.at hrest 0 (by kernel_rfl) (rfl) (.inl HST.out.own) ht8)
  | 6,_,_=>cases ho;exact zab rfl (Sp.at hrest 1 (by kernel_rfl) (rfl) (.inl HST.out.own) ht8)
  | 7,_,_=>cases ho;exact zab rfl (Sp.at hrest 2 (by kernel_rfl) (HLV.out) (.inl HST.out.own) ht8)
  | 8,_,_=>cases ho;exact zaz (k:=1) rfl (Sp.dep hdep 7 26 (by kernel_rfl)) (by decide) (by simp) (by decide)
  | 9,_,h=>exact absurd (by decide) h
  | 10,_,_=>cases ho;exact zdG rfl (by omega) hlt8
  | 11,_,_=>cases ho;exact zbY rfl (Sp.dep hdep 4 23 (by kernel_rfl)) (Sp.dep hdep 9 28 (by kernel_rfl)) (Sp.dep hdep 10 29 (by kernel_rfl)) hlt8
  | 12,_,_=>cases ho;exact za6 rfl (Sp.dep hdep 11 30 (by kernel_rfl)) (by decide) (rowlen3) hlt8
  | i+13,hi,_=>exact absurd hi (by omega)
 case hcall=>
  intro j i o8 hj ho a8 w8 hdf hst8 ht8 hdep hprev hrest
  match j,hj with
  | 0,hj=>
   cases hj;cases ho
   refine zaK (p:=p1) rfl (Sp.dep hdep 0 19 (by kernel_rfl)) (fun _ _=>rfl) (HE.out (S1 S w.heap.size) b (_) x _ w8 p1 (HP1.out) hst8.lt (.inl hst8.own) hst8.hx hst8.hE (Sp.datum (Sp.dep hdep 3 22 (by kernel_rfl)))) fun hp w9 ht9=>?_
   cases HNp1.out hp;exact ⟨hdf,hst8.bad' ht9⟩
  | 1,hj=>
   cases hj;cases ho
   obtain ⟨y1,m1,hq1,hy1⟩:=Sp.got (Sp.dep hdep 4 23 (by kernel_rfl))
   have hv0:a8.tmps.getD 24 undef=.pointer (some ⟨b,0,none⟩):=(Sp.dep hdep 5 24 (by kernel_rfl))
   have hv1:a8.tmps.getD 25 undef=.string ⟨#[97,110,100]⟩:=(Sp.dep hdep 6 25 (by kernel_rfl))
   refine zaE (p:=p2) (vals:=#[.pointer (some ⟨b,0,none⟩),.string ⟨#[97,110,100]⟩,a8.tmps.getD 27 undef]) rfl (by simp only[List.map_toArray,List.map_cons,List.map_nil];rw[←hv0];rw[←hv1];rfl) (fun _ _=>rfl) (IH.out (S1 S w.heap.size) b (cnt p1) _ w8 p2 (by rw[hq1];exact HP2.out y1 m1 hq1) hst8.lt (.inl hst8.own) hst8.hx hst8.hE (Sp.data (Sp.dep hdep 8 27 (by kernel_rfl)))) fun hp w9 ht9=>?_
   have hrn:=HNp2.out hp
   subst hrn
   exact ⟨hdf,hst8.bad' ht9⟩
  | _+2,hj=>simp at hj
 case hend=>
  intro a8 w8 hdf hsz hst8 ht8 hval hrest
  refine fin_s (r:=r) hst8 (hval 12 _ 31 (by omega) rfl rfl) (fun x8 hx8=>?_) ((hrest.at 6 (by kernel_rfl)).trans rfl) hdf rfl results110 fun w9 h9=>?_
  ·clear hval hrest hdf hsz hst8 ht8
   rcases p2 with _ | ⟨y2,n2⟩
   ·simp at hx8
   rcases p1 with _ | ⟨y1,n1⟩
   ·simp at hx8
   cases hx8
   exact Sy.ret_split (HRF.out _ _ _ _ rfl rfl)
  ·go_wp2_with fail
theorem zhL {E:Dat→Sy.M Dat} (hE:EOk E):∀(l:List Dat) (S:Nat→Prop) (b n:Nat) (sl:Value) (w:World) (r:Option (Dat × Nat)),Sy.andF E l n=some r→(∀c,S c→c<w.heap.size)→S b→XP w b n→Env w→RepS (hide w S) w.heap.size l sl→Calls prog 110 #[.pointer (some ⟨b,0,none⟩),.string ⟨#[97,110,100]⟩,sl] w (XRes S b r w)
 | [],S,b,n,sl,w,r,hr,hS,hb,hx,hV,hv=>zld S b n sl w r hr hS hb hx hV hv
 | [x],S,b,n,sl,w,r,hr,hS,hb,hx,hV,hv=>zle hE x S b n sl w r hr hS hb hx hV hv
 | x::y::t,S,b,n,sl,w,r,hr,hS,hb,hx,hV,hv=>zkE hE x y t (zhL hE (y::t)) S b n sl w r hr hS hb hx hV hv
theorem zmc (S:Nat→Prop) (b n:Nat) (sl:Value) (w:World) (r:Option (Dat × Nat)) (hr:Sy.ret (Sy.truth 0) n=some r) (hS:∀c,S c→c<w.heap.size) (hb:S b) (hx:XP w b n) (hV:Env w) (hv:RepS (hide w S) w.heap.size [] sl) :
  Calls prog 110 #[.pointer (some ⟨b,0,none⟩),.string ⟨#[111,114]⟩,sl] w (XRes S b r w):=by
 obtain ⟨o,len,cap,rfl,hln,hcp⟩:=Sp.slice (Sp.ofS hv)
 obtain ⟨W0,hW0,hst⟩:=zat hS hb hx hV
 have HST:=zh hst
 have HW0:=zh hW0
 obtain rfl:len=0:=by rw[hln];rfl
 have HLV:=zh (hst.first (Sp.ofS hv))
 have HR:=zh hr
 clear hst hW0 hv hS hb hx hV hr hln hcp
 go_enter func110,ntmps110
 go_upto_region 1 with fail
 rw[HW0.out]
 go_upto_region 10 with fail
 refine zad (dr:=false) (S:=S) (b:=b) (H:=w.heap.size) 1 [] (fun j=>[n].getD j 0) [.dat (some (Sy.truth 0))] HST.out (by show zB _ _ 1 146=true;kernel_rfl) (by decide) (by decide) (by kernel_rfl) ?hops ?hcall ?hend
 case hops=>
  intro i o8 hi hip ho a8 w8 hdf hlt8 ht8 hdep hrest
  match i,hi,hip with
  | 0,_,_=>cases ho;exact zdG rfl (by omega) hlt8
  | i+1,hi,_=>exact absurd hi (by omega)
 case hcall=>
  intro j i o8 hj ho a8 w8 hdf hst8 ht8 hdep hprev hrest
  simp at hj
 case hend=>
  intro a8 w8 hdf hsz hst8 ht8 hval hrest
  refine fin_s (r:=r) hst8 (hval 0 _ 42 (by omega) rfl rfl) (fun x8 hx8=>?_) ((hrest.at 6 (by kernel_rfl)).trans rfl) hdf rfl results110 fun w9 h9=>?_
  ·clear hval hrest hdf hsz hst8 ht8
   cases hx8
   exact Sy.ret_split HR.out
  ·go_wp2_with fail
theorem zl1 {E:Dat→Sy.M Dat} (hE:EOk E) (x:Dat) (S:Nat→Prop) (b n:Nat) (sl:Value) (w:World) (r:Option (Dat × Nat)) (hr:E x n=some r) (hS:∀c,S c→c<w.heap.size) (hb:S b) (hx:XP w b n) (hV:Env w) (hv:RepS (hide w S) w.heap.size [x] sl) :
  Calls prog 110 #[.pointer (some ⟨b,0,none⟩),.string ⟨#[111,114]⟩,sl] w (XRes S b r w):=by
 obtain ⟨o,len,cap,rfl,hln,hcp⟩:=Sp.slice (Sp.ofS hv)
 obtain ⟨W0,hW0,hst⟩:=zat hS hb hx hV
 have HST:=zh hst
 have HW0:=zh hW0
 obtain rfl:len=1:=by rw[hln];rfl
 have HLV:=zh (hst.first (Sp.ofS hv))
 have HR:=zh hr
 have HE:=zh hE
 clear hst hW0 hv hS hb hx hV hr hln hcp hE
 go_enter func110,ntmps110
 go_upto_region 1 with fail
 rw[HW0.out]
 go_upto_region 14 with fail
 obtain ⟨p1,hp1⟩:∃p1,r=p1:=⟨_,rfl⟩
 have HP1:=zh (show E x n=some p1 from by rw[←hp1];exact HR.out)
 have HNp1:=zh (show p1=none→r=none from fun h=>by rw[hp1];exact h)
 have HRF:=zh hp1
 clear hp1
 refine zad (dr:=false) (S:=S) (b:=b) (H:=w.heap.size) 5 [4] (fun j=>[n,cnt p1].getD j 0) [.val (.pointer (some ⟨b,0,none⟩)),.row (some (x::[])),.elm (some (x)),.dat (some (x)),.dat (p1.map (·.1))] HST.out (by show zB _ _ 5 146=true;kernel_rfl) (by decide) (by decide) (by kernel_rfl) ?hops ?hcall ?hend
 case hops=>
  intro i o8 hi hip ho a8 w8 hdf hlt8 ht8 hdep hrest
  match i,hi,hip with
  | 0,_,_=>cases ho;exact zab rfl (Sp.at hrest 0 (by kernel_rfl) (rfl) (.inl HST.out.own) ht8)
  | 1,_,_=>cases ho;exact zab rfl (Sp.at hrest 2 (by kernel_rfl) (HLV.out) (.inl HST.out.own) ht8)
  | 2,_,_=>cases ho;exact zar (k:=0) rfl (Sp.dep hdep 1 64 (by kernel_rfl)) rfl (by decide)
  | 3,_,_=>cases ho;exact zak rfl (Sp.dep hdep 2 65 (by kernel_rfl))
  | 4,_,h=>exact absurd (by decide) h
  | i+5,hi,_=>exact absurd hi (by omega)
 case hcall=>
  intro j i o8 hj ho a8 w8 hdf hst8 ht8 hdep hprev hrest
  match j,hj with
  | 0,hj=>
   cases hj;cases ho
   refine zaK (p:=p1) rfl (Sp.dep hdep 0 63 (by kernel_rfl)) (fun _ _=>rfl) (HE.out (S1 S w.heap.size) b (_) x _ w8 p1 (HP1.out) hst8.lt (.inl hst8.own) hst8.hx hst8.hE (Sp.datum (Sp.dep hdep 3 66 (by kernel_rfl)))) fun hp w9 ht9=>?_
   cases HNp1.out hp;exact ⟨hdf,hst8.bad' ht9⟩
  | _+1,hj=>simp at hj
 case hend=>
  intro a8 w8 hdf hsz hst8 ht8 hval hrest
  refine fin_s (r:=r) hst8 (hval 4 _ 67 (by omega) rfl rfl) (fun x8 hx8=>?_) ((hrest.at 6 (by kernel_rfl)).trans rfl) hdf rfl results110 fun w9 h9=>?_
  ·clear hval hrest hdf hsz hst8 ht8
   rcases p1 with _ | ⟨y1,n1⟩
   ·simp at hx8
   cases hx8
   exact HRF.out
  ·go_wp2_with fail
theorem zlp {E:Dat→Sy.M Dat} (hE:EOk E) (x y:Dat) (t:List Dat) (ih:∀(S:Nat→Prop) (b n:Nat) (sl:Value) (w:World) (r:Option (Dat × Nat)),Sy.orF E (y::t) n=some r→(∀c,S c→c<w.heap.size)→S b→XP w b n→Env w→RepS (hide w S) w.heap.size (y::t) sl→Calls prog 110 #[.pointer (some ⟨b,0,none⟩),.string ⟨#[111,114]⟩,sl] w (XRes S b r w)) (S:Nat→Prop) (b n:Nat) (sl:Value) (w:World) (r:Option (Dat × Nat)) (hr:Sy.orF E (x::y::t) n=some r) (hS:∀c,S c→c<w.heap.size) (hb:S b) (hx:XP w b n) (hV:Env w) (hv:RepS (hide w S) w.heap.size (x::y::t) sl) :
  Calls prog 110 #[.pointer (some ⟨b,0,none⟩),.string ⟨#[111,114]⟩,sl] w (XRes S b r w):=by
 obtain ⟨o,len,cap,rfl,hln,hcp⟩:=Sp.slice (Sp.ofS hv)
 obtain ⟨W0,hW0,hst⟩:=zat hS hb hx hV
 have HST:=zh hst
 have HW0:=zh hW0
 have hge:2≤len:=by rw[hln];simp
 have ht0a:((len:Int)==0)=false:=by simp;omega
 have ht0b:¬len=0:=by omega
 have ht1a:((len:Int)==1)=false:=by simp;omega
 have ht1b:¬len=1:=by omega
 have ht9a:decide ((len:Int) > 1)=true:=by simp;omega
 have ht9b:1<len:=by omega
 have ht9c:((1:Int)<len):=by omega
 have HLV:=zh (hst.first (Sp.ofS hv))
 have HR:=zh hr
 have HE:=zh hE
 have IH:=zh ih
 clear hst hW0 hv hS hb hx hV hr hln hcp hge hE ih
 go_enter func110,ntmps110
 go_upto_region 1 with fail
 rw[HW0.out]
 obtain ⟨hfn,hr2⟩:=Sy.fresh_split (show Sy.bnd Sy.fresh (fun v=>Sy.bnd (Sy.orF E (y::t)) fun d=>Sy.over E v (Sy.form Sy.ifB [v,v,d]) x) n=some r from HR.out)
 have HFN:=zh hfn
 have HR2:=zh hr2
 clear hfn hr2
 have HFR:=zh (zbP (S1 S w.heap.size) b n W0 HST.out.lt (.inl HST.out.own) HST.out.hx HST.out.hE HFN.out)
 go_upto_region 13 with (first | (go_at_call 147;refine HFR.out.mono ?_;rintro e' w5 ⟨v5,rfl,hr5,ht5,hx5⟩;obtain ⟨k9,m9,d9,s9,o9,len9,cap9,rfl⟩:=zae hr5.unhide) | fail)
 obtain ⟨W6,hW6⟩:∃W6,w5.alloc (.cells #[.int .i64 k9,.int .i64 m9,.int .i64 d9,.string s9,.slice o9 len9 cap9] 26)=W6:=⟨_,rfl⟩
 obtain ⟨hst6,hel6,ht6⟩:=HST.out.stored ht5 hx5 hr5 hW6
 rw[hW6]
 have HST6:=zh hst6
 have HEL6:=zh hel6
 have HLV6:=zh (HST.out.keep HLV.out ht6)
 clear hst6 hel6 ht6 ht5 hx5 hr5 hW6
 obtain ⟨p1,hp1,hn1,hk⟩:=Sy.bnd_split HR2.out
 obtain ⟨p2,hp2⟩:∃p2,r=p2:=⟨_,rfl⟩
 have HP1:=zh hp1
 have HNp1:=zh hn1
 have HP2:=zh (show ∀u7 n7,p1=some (u7,n7)→Sy.over E (Sy.freshD (n+1)) (Sy.form Sy.ifB [Sy.freshD (n+1),Sy.freshD (n+1),u7]) x n7=some p2 from by rw[←hp2];exact hk)
 have HNp2:=zh (show p2=none→r=none from fun h=>by rw[hp2];exact h)
 have HRF:=zh hp2
 clear hp1 hn1 hk hp2
 refine zad (dr:=true) (S:=S) (b:=b) (H:=w.heap.size) 15 [8,14] (fun j=>[(n+1),cnt p1,cnt p2].getD j 0) [.val (.pointer (some ⟨b,0,none⟩)),.dat (some (Sy.freshD (n+1))),.dat (some (Sy.freshD (n+1))),.dat (some (Sy.freshD (n+1))),.val (.pointer (some ⟨b,0,none⟩)),.val (.string ⟨#[111,114]⟩),.row (some (x::y::t)),.row (some (y::t)),.dat (p1.map (·.1)),.row ((some (Sy.freshD (n+1))).bind fun u0_57=>(some (Sy.freshD (n+1))).bind fun u1_57=>(p1.map (·.1)).bind fun u2_57=>some [u0_57,u1_57,u2_57]),.dat (((some (Sy.freshD (n+1))).bind fun u0_57=>(some (Sy.freshD (n+1))).bind fun u1_57=>(p1.map (·.1)).bind fun u2_57=>some [u0_57,u1_57,u2_57]).map (Sy.form ⟨#[105,102]⟩)),.row (some (x::y::t)),.elm (some (x)),.dat (some (x)),.dat (p2.map (·.1))] HST6.out (by show zB _ _ 15 146=true;kernel_rfl) (by decide) (by decide) (by kernel_rfl) ?hops ?hcall ?hend
 case hops=>
  intro i o8 hi hip ho a8 w8 hdf hlt8 ht8 hdep hrest
  match i,hi,hip with
  | 0,_,_=>cases ho;exact zab rfl (Sp.at hrest 0 (by kernel_rfl) (rfl) (.inl HST6.out.own) ht8)
  | 1,_,_=>cases ho;exact zak rfl (Sp.at hrest 7 (by kernel_rfl) (HEL6.out) (.inl HST6.out.own) ht8)
  | 2,_,_=>cases ho;exact zak rfl (Sp.at hrest 7 (by kernel_rfl) (HEL6.out) (.inl HST6.out.own) ht8)
  | 3,_,_=>cases ho;exact zak rfl (Sp.at hrest 7 (by kernel_rfl) (HEL6.out) (.inl HST6.out.own) ht8)
  | 4,_,_=>cases ho;exact zab rfl (Sp.at hrest 0 (by kernel_rfl) (rfl) (.inl HST6.out.own) ht8)
  | 5,_,_=>cases ho;exact zab rfl (Sp.at hrest 1 (by kernel_rfl) (rfl) (.inl HST6.out.own) ht8)
  | 6,_,_=>cases ho;exact zab rfl (Sp.at hrest 2 (by kernel_rfl) (HLV6.out) (.inl HST6.out.own) ht8)
  | 7,_,_=>cases ho;exact zaz (k:=1) rfl (Sp.dep hdep 6 54 (by kernel_rfl)) (by decide) (by simp) (by decide)
  | 8,_,h=>exact absurd (by decide) h
  | 9,_,_=>cases ho;exact zbY rfl (Sp.dep hdep 2 50 (by kernel_rfl)) (Sp.dep hdep 3 51 (by kernel_rfl)) (Sp.dep hdep 8 56 (by kernel_rfl)) hlt8
  | 10,_,_=>cases ho;exact za6 rfl (Sp.dep hdep 9 57 (by kernel_rfl)) (by decide) (rowlen3) hlt8
  | 11,_,_=>cases ho;exact zab rfl (Sp.at hrest 2 (by kernel_rfl) (HLV6.out) (.inl HST6.out.own) ht8)
  | 12,_,_=>cases ho;exact zar (k:=0) rfl (Sp.dep hdep 11 59 (by kernel_rfl)) rfl (by decide)
  | 13,_,_=>cases ho;exact zak rfl (Sp.dep hdep 12 60 (by kernel_rfl))
  | 14,_,h=>exact absurd (by decide) h
  | i+15,hi,_=>exact absurd hi (by omega)
 case hcall=>
  intro j i o8 hj ho a8 w8 hdf hst8 ht8 hdep hprev hrest
  match j,hj with
  | 0,hj=>
   cases hj;cases ho
   have hv0:a8.tmps.getD 52 undef=.pointer (some ⟨b,0,none⟩):=(Sp.dep hdep 4 52 (by kernel_rfl))
   have hv1:a8.tmps.getD 53 undef=.string ⟨#[111,114]⟩:=(Sp.dep hdep 5 53 (by kernel_rfl))
   refine zaE (p:=p1) (vals:=#[.pointer (some ⟨b,0,none⟩),.string ⟨#[111,114]⟩,a8.tmps.getD 55 undef]) rfl (by simp only[List.map_toArray,List.map_cons,List.map_nil];rw[←hv0];rw[←hv1];rfl) (fun _ _=>rfl) (IH.out (S1 S w.heap.size) b _ _ w8 p1 HP1.out hst8.lt (.inl hst8.own) hst8.hx hst8.hE (Sp.data (Sp.dep hdep 7 55 (by kernel_rfl)))) fun hp w9 ht9=>?_
   have hrn:=HNp1.out hp
   subst hrn
   exact ⟨hdf,hst8.bad' ht9⟩
  | 1,hj=>
   cases hj;cases ho
   obtain ⟨y1,m1,hq1⟩:∃y m,p1=some (y,m):=by
    have h:=(Sp.dep hdep 10 58 (by kernel_rfl))
    obtain ⟨_,h,_⟩:=h
    rcases p1 with _ | ⟨y,m⟩
    ·simp at h
    ·exact ⟨y,m,rfl⟩
   have hv0:a8.tmps.getD 48 undef=.pointer (some ⟨b,0,none⟩):=(Sp.dep hdep 0 48 (by kernel_rfl))
   refine zaE (p:=p2) (vals:=#[.pointer (some ⟨b,0,none⟩),a8.tmps.getD 49 undef,a8.tmps.getD 58 undef,a8.tmps.getD 61 undef]) rfl (by simp only[List.map_toArray,List.map_cons,List.map_nil];rw[←hv0];rfl) (fun _ _=>rfl) (zb6 HE.out (S1 S w.heap.size) b (cnt p1) (Sy.freshD (n+1)) (Sy.form Sy.ifB [Sy.freshD (n+1),Sy.freshD (n+1),y1]) x _ _ _ w8 p2 (by rw[hq1];exact HP2.out y1 m1 hq1) hst8.lt (.inl hst8.own) hst8.hx hst8.hE (Sp.datum (Sp.dep hdep 1 49 (by kernel_rfl))) (Sp.datum (x:=Sy.form Sy.ifB [Sy.freshD (n+1),Sy.freshD (n+1),y1]) (by have h:=(Sp.dep hdep 10 58 (by kernel_rfl));subst hq1;exact h)) (Sp.datum (Sp.dep hdep 13 61 (by kernel_rfl)))) fun hp w9 ht9=>?_
   have hrn:=HNp2.out hp
   subst hrn
   exact ⟨hdf,hst8.bad' ht9⟩
  | _+2,hj=>simp at hj
 case hend=>
  intro a8 w8 hdf hsz hst8 ht8 hval hrest
  refine fin_s (r:=r) hst8 (hval 14 _ 62 (by omega) rfl rfl) (fun x8 hx8=>?_) ((hrest.at 6 (by kernel_rfl)).trans rfl) hdf rfl results110 fun w9 h9=>?_
  ·clear hval hrest hdf hsz hst8 ht8
   rcases p2 with _ | ⟨y2,n2⟩
   ·simp at hx8
   rcases p1 with _ | ⟨y1,n1⟩
   ·exact absurd (HRF.out.symm.trans (HNp1.out rfl)) (by simp)
   cases hx8
   exact HRF.out
  ·go_wp2_with fail
theorem zkj {E:Dat→Sy.M Dat} (hE:EOk E):∀(l:List Dat) (S:Nat→Prop) (b n:Nat) (sl:Value) (w:World) (r:Option (Dat × Nat)),Sy.orF E l n=some r→(∀c,S c→c<w.heap.size)→S b→XP w b n→Env w→RepS (hide w S) w.heap.size l sl→Calls prog 110 #[.pointer (some ⟨b,0,none⟩),.string ⟨#[111,114]⟩,sl] w (XRes S b r w)
 | [],S,b,n,sl,w,r,hr,hS,hb,hx,hV,hv=>zmc S b n sl w r hr hS hb hx hV hv
 | [x],S,b,n,sl,w,r,hr,hS,hb,hx,hV,hv=>zl1 hE x S b n sl w r hr hS hb hx hV hv
 | x::y::t,S,b,n,sl,w,r,hr,hS,hb,hx,hV,hv=>zlp hE x y t (zkj hE (y::t)) S b n sl w r hr hS hb hx hV hv
end
section
open Go Go.RowKit
theorem XS.clause_some {S:Nat→Prop} {b H n:Nat} {w W:World} (hst:XS S b H n w W) (x:Dat) (r:List Dat) (sl:Value) (least:Nat) (c:List Dat) (last:Bool) (hc:Sy.clause x r least=some (c,last)) (hv:(Sp.row (some (x::r))).holds (S1 S H) sl W) (hsm:Sy.small x=true) (hle:1≤least) (hl2:least≤1000) (hrl:r.length≤1000000):Calls prog 163 #[sl,.int .i64 least] W fun e w'=>∃(o:Option Addr) (len cap:Nat),e=.returned (.tuple #[.slice o len cap,.bool last])∧(Sp.row (some c)).holds (S1 S H) (.slice o len cap) w'∧len=c.length∧Below W.heap.size W w':=by
 obtain ⟨h1,h2⟩:=Sy.small_iff.1 hsm
 refine (zd5 (S1 S H) x r sl least W.heap.size W hst.lt (Sp.data hv) (Nat.le_refl _) h1 h2 hle hl2 hrl).mono ?_
 rintro e w' ⟨hb,h⟩
 rw[hc] at h
 obtain ⟨o,len,cap,rfl,hr⟩:=h
 exact ⟨o,len,cap,rfl,Sp.ofS hr,(zbj hr).1,hb⟩
theorem XS.clause_none {S:Nat→Prop} {b H n:Nat} {w W:World} (hst:XS S b H n w W) (x:Dat) (r:List Dat) (sl:Value) (least:Nat) (hc:Sy.clause x r least=none) (hv:(Sp.row (some (x::r))).holds (S1 S H) sl W) (hsm:Sy.small x=true) (hle:1≤least) (hl2:least≤1000) (hrl:r.length≤1000000):Calls prog 163 #[sl,.int .i64 least] W fun e w'=>e=.panicked badE∧Below W.heap.size W w':=by
 obtain ⟨h1,h2⟩:=Sy.small_iff.1 hsm
 refine (zd5 (S1 S H) x r sl least W.heap.size W hst.lt (Sp.data hv) (Nat.le_refl _) h1 h2 hle hl2 hrl).mono ?_
 rintro e w' ⟨hb,h⟩
 rw[hc] at h
 exact ⟨h,hb⟩
theorem zjw (S:Nat→Prop) (b n:Nat) (sl:Value) (w:World) (r:Option (Dat × Nat)) (hr:Sy.ret Sy.void n=some r) (hS:∀c,S c→c<w.heap.size) (hb:S b) (hx:XP w b n) (hV:Env w) (hv:RepS (hide w S) w.heap.size [] sl) :
  Calls prog 148 #[.pointer (some ⟨b,0,none⟩),sl] w (XRes S b r w):=by
 obtain ⟨o,len,cap,rfl,hln,hcp⟩:=Sp.slice (Sp.ofS hv)
 obtain ⟨W0,hW0,hst⟩:=zat hS hb hx hV
 have HST:=zh hst
 have HW0:=zh hW0
 obtain rfl:len=0:=by rw[hln];rfl
 have HLV:=zh (hst.first (Sp.ofS hv))
 have HR:=zh hr
 clear hst hW0 hv hS hb hx hV hr hln hcp
 go_enter func148,ntmps148
 go_upto_region 1 with fail
 rw[HW0.out]
 go_upto_region 2 with fail
 refine zad (dr:=false) (S:=S) (b:=b) (H:=w.heap.size) 1 [] (fun j=>[n].getD j 0) [.dat (some (Sy.void))] HST.out (by show zB _ _ 1 97=true;kernel_rfl) (by decide) (by decide) (by kernel_rfl) ?hops ?hcall ?hend
 case hops=>
  intro i o8 hi hip ho a8 w8 hdf hlt8 ht8 hdep hrest
  match i,hi,hip with
  | 0,_,_=>cases ho;exact zdS rfl hlt8
  | i+1,hi,_=>exact absurd hi (by omega)
 case hcall=>
  intro j i o8 hj ho a8 w8 hdf hst8 ht8 hdep hprev hrest
  simp at hj
 case hend=>
  intro a8 w8 hdf hsz hst8 ht8 hval hrest
  refine fin_s (r:=r) hst8 (hval 0 _ 15 (by omega) rfl rfl) (fun x8 hx8=>?_) ((hrest.at 4 (by kernel_rfl)).trans rfl) hdf rfl results148 fun w9 h9=>?_
  ·clear hval hrest hdf hsz hst8 ht8
   cases hx8
   exact Sy.ret_split HR.out
  ·go_wp2_with fail
theorem ziQ (x:Dat) (t:List Dat) (hsx:Sy.small x=true) (htl:t.length≤100000) (hcl:Sy.clause x t 1=none) (S:Nat→Prop) (b n:Nat) (sl:Value) (w:World) (r:Option (Dat × Nat)) (hr:(Sy.bad:Sy.M Dat) n=some r) (hS:∀c,S c→c<w.heap.size) (hb:S b) (hx:XP w b n) (hV:Env w) (hv:RepS (hide w S) w.heap.size (x::t) sl) :
  Calls prog 148 #[.pointer (some ⟨b,0,none⟩),sl] w (XRes S b r w):=by
 obtain ⟨o,len,cap,rfl,hln,hcp⟩:=Sp.slice (Sp.ofS hv)
 obtain ⟨W0,hW0,hst⟩:=zat hS hb hx hV
 have HST:=zh hst
 have HW0:=zh hW0
 have hge:1≤len:=by rw[hln];simp
 have ht0a:((len:Int)==0)=false:=by simp;omega
 have ht0b:¬len=0:=by omega
 have ht9a:decide ((len:Int) > 0)=true:=by simp;omega
 have ht9b:0<len:=by omega
 have ht9c:((0:Int)<len):=by omega
 have HLV:=zh (hst.first (Sp.ofS hv))
 have HR:=zh hr
 have HC:=zh (hst.clause_none x t (.slice o len cap) 1 hcl (hst.first (Sp.ofS hv)) hsx (by omega) (by omega) (by omega))
 have HSX:=zh hsx
 have HTL:=zh htl
 clear hst hW0 hv hS hb hx hV hr hln hcp hge hsx htl
 go_enter func148,ntmps148
 go_upto_region 1 with fail
 rw[HW0.out]
 have hrn:=Sy.bad_split HR.out
 subst hrn
 go_wp2_with (first | (go_at_call 163;refine HC.out.mono ?_;rintro e' w1 ⟨rfl,hb1⟩) | fail)
 exact ⟨rfl,HST.out.bad' (Turned.of_below hb1)⟩
theorem ziq {E:Dat→Sy.M Dat} (hE:EOk E) (x:Dat) (t:List Dat) (hsx:Sy.small x=true) (htl:t.length≤100000) (a:Dat) (c:List Dat) (hcl:Sy.clause x t 1=some (a::c,true)) (hcl2:c.length≤100000) (S:Nat→Prop) (b n:Nat) (sl:Value) (w:World) (r:Option (Dat × Nat)) (hr:Sy.begin E c n=some r) (hS:∀c,S c→c<w.heap.size) (hb:S b) (hx:XP w b n) (hV:Env w) (hv:RepS (hide w S) w.heap.size (x::t) sl) :
  Calls prog 148 #[.pointer (some ⟨b,0,none⟩),sl] w (XRes S b r w):=by
 obtain ⟨o,len,cap,rfl,hln,hcp⟩:=Sp.slice (Sp.ofS hv)
 obtain ⟨W0,hW0,hst⟩:=zat hS hb hx hV
 have HST:=zh hst
 have HW0:=zh hW0
 have hge:1≤len:=by rw[hln];simp
 have ht0a:((len:Int)==0)=false:=by simp;omega
 have ht0b:¬len=0:=by omega
 have ht9a:decide ((len:Int) > 0)=true:=by simp;omega
 have ht9b:0<len:=by omega
 have ht9c:((0:Int)<len):=by omega
 have HLV:=zh (hst.first (Sp.ofS hv))
 have HR:=zh hr
 have HC:=zh (hst.clause_some x t (.slice o len cap) 1 _ _ hcl (hst.first (Sp.ofS hv)) hsx (by omega) (by omega) (by omega))
 have HCL:=zh hcl2
 clear hcl2
 have HE:=zh hE
 have HSX:=zh hsx
 have HTL:=zh htl
 clear hst hW0 hv hS hb hx hV hr hln hcp hge hE hsx htl
 go_enter func148,ntmps148
 go_upto_region 1 with fail
 rw[HW0.out]
 go_upto_region 5 with (first | (go_at_call 163;refine HC.out.mono ?_;rintro e' w1 ⟨oc,lenc,capc,rfl,hg1,hl1,hb1⟩;have HG1:=zh hg1;have HL1:=zh hl1;have HB1:=zh hb1;clear hg1 hl1 hb1) | fail)
 have HST1:=zh (HST.out.below HB1.out)
 have HLV1:=zh (Sp.below HLV.out HB1.out)
 obtain ⟨p1,hp1⟩:∃p1,r=p1:=⟨_,rfl⟩
 have HP1:=zh (show Sy.begin E c n=some p1 from by rw[←hp1];exact HR.out)
 have HNp1:=zh (show p1=none→r=none from fun h=>by rw[hp1];exact h)
 have HRF:=zh hp1
 clear hp1
 refine zad (dr:=false) (S:=S) (b:=b) (H:=w.heap.size) 4 [3] (fun j=>[n,cnt p1].getD j 0) [.val (.pointer (some ⟨b,0,none⟩)),.row (some (a::c)),.row (some (c)),.dat (p1.map (·.1))] HST1.out (by show zB _ _ 4 97=true;kernel_rfl) (by decide) (by decide) (by kernel_rfl) ?hops ?hcall ?hend
 case hops=>
  intro i o8 hi hip ho a8 w8 hdf hlt8 ht8 hdep hrest
  match i,hi,hip with
  | 0,_,_=>cases ho;exact zab rfl (Sp.at hrest 0 (by kernel_rfl) (rfl) (.inl HST1.out.own) ht8)
  | 1,_,_=>cases ho;exact zab rfl (Sp.at hrest 5 (by kernel_rfl) (HG1.out) (.inl HST1.out.own) ht8)
  | 2,_,_=>cases ho;exact zaz (k:=1) rfl (Sp.dep hdep 1 24 (by kernel_rfl)) (by decide) (by simp) (by decide)
  | 3,_,h=>exact absurd (by decide) h
  | i+4,hi,_=>exact absurd hi (by omega)
 case hcall=>
  intro j i o8 hj ho a8 w8 hdf hst8 ht8 hdep hprev hrest
  match j,hj with
  | 0,hj=>
   cases hj;cases ho
   refine zaK (p:=p1) rfl (Sp.dep hdep 0 23 (by kernel_rfl)) (fun _ _=>rfl) (zaQ HE.out (S1 S w.heap.size) b _ c _ w8 p1 HP1.out hst8.lt (.inl hst8.own) hst8.hx hst8.hE (Sp.data (Sp.dep hdep 2 25 (by kernel_rfl))) HCL.out) fun hp w9 ht9=>?_
   cases HNp1.out hp;exact ⟨hdf,hst8.bad' ht9⟩
  | _+1,hj=>simp at hj
 case hend=>
  intro a8 w8 hdf hsz hst8 ht8 hval hrest
  refine fin_s (r:=r) hst8 (hval 3 _ 26 (by omega) rfl rfl) (fun x8 hx8=>?_) ((hrest.at 4 (by kernel_rfl)).trans rfl) hdf rfl results148 fun w9 h9=>?_
  ·clear hval hrest hdf hsz hst8 ht8
   rcases p1 with _ | ⟨y1,n1⟩
   ·simp at hx8
   cases hx8
   exact HRF.out
  ·go_wp2_with fail
theorem zj7 {E:Dat→Sy.M Dat} (hE:EOk E) (x:Dat) (t:List Dat) (hsx:Sy.small x=true) (htl:t.length≤100000) (a:Dat) (hcl:Sy.clause x t 1=some ([a],false)) (ih:∀(S:Nat→Prop) (b n:Nat) (sl:Value) (w:World) (r:Option (Dat × Nat)),Sy.condF E t n=some r→(∀c,S c→c<w.heap.size)→S b→XP w b n→Env w→RepS (hide w S) w.heap.size t sl→Calls prog 148 #[.pointer (some ⟨b,0,none⟩),sl] w (XRes S b r w)) (S:Nat→Prop) (b n:Nat) (sl:Value) (w:World) (r:Option (Dat × Nat)) (hr:Sy.bnd Sy.fresh (fun v=>Sy.bnd (Sy.condF E t) fun d=>Sy.over E v (Sy.form Sy.ifB [v,v,d]) a) n=some r) (hS:∀c,S c→c<w.heap.size) (hb:S b) (hx:XP w b n) (hV:Env w) (hv:RepS (hide w S) w.heap.size (x::t) sl) :
  Calls prog 148 #[.pointer (some ⟨b,0,none⟩),sl] w (XRes S b r w):=by
 obtain ⟨o,len,cap,rfl,hln,hcp⟩:=Sp.slice (Sp.ofS hv)
 obtain ⟨W0,hW0,hst⟩:=zat hS hb hx hV
 have HST:=zh hst
 have HW0:=zh hW0
 have hge:1≤len:=by rw[hln];simp
 have ht0a:((len:Int)==0)=false:=by simp;omega
 have ht0b:¬len=0:=by omega
 have ht9a:decide ((len:Int) > 0)=true:=by simp;omega
 have ht9b:0<len:=by omega
 have ht9c:((0:Int)<len):=by omega
 have HLV:=zh (hst.first (Sp.ofS hv))
 have HR:=zh hr
 have HC:=zh (hst.clause_some x t (.slice o len cap) 1 _ _ hcl (hst.first (Sp.ofS hv)) hsx (by omega) (by omega) (by omega))
 have HE:=zh hE
 have HSX:=zh hsx
 have HTL:=zh htl
 have IH:=zh ih
 clear hst hW0 hv hS hb hx hV hr hln hcp hge hE hsx htl ih
 go_enter func148,ntmps148
 go_upto_region 1 with fail
 rw[HW0.out]
 obtain ⟨hfn,hr2⟩:=Sy.fresh_split HR.out
 have HFN:=zh hfn
 have HR2:=zh hr2
 clear hfn hr2
 go_upto_region 4 with (first | (go_at_call 163;refine HC.out.mono ?_;rintro e' w1 ⟨oc,lenc,capc,rfl,hg1,hl1,hb1⟩;have HG1:=zh hg1;have HL1:=zh hl1;have HB1:=zh hb1;clear hg1 hl1 hb1) | fail)
 have HST1:=zh (HST.out.below HB1.out)
 have HLV1:=zh (Sp.below HLV.out HB1.out)
 obtain rfl:lenc=1:=HL1.out
 have HFR:=zh (zbP (S1 S w.heap.size) b n w1 HST1.out.lt (.inl HST1.out.own) HST1.out.hx HST1.out.hE HFN.out)
 go_upto_region 8 with (first | (go_at_call 147;refine HFR.out.mono ?_;rintro e' w5 ⟨v5,rfl,hr5,ht5,hx5⟩;obtain ⟨k9,m9,d9,s9,o9,len9,cap9,rfl⟩:=zae hr5.unhide) | fail)
 obtain ⟨W6,hW6⟩:∃W6,w5.alloc (.cells #[.int .i64 k9,.int .i64 m9,.int .i64 d9,.string s9,.slice o9 len9 cap9] 26)=W6:=⟨_,rfl⟩
 obtain ⟨hst6,hel6,ht6⟩:=HST1.out.stored ht5 hx5 hr5 hW6
 rw[hW6]
 have HST6:=zh hst6
 have HEL6:=zh hel6
 have HLV6:=zh (HST1.out.keep HLV1.out ht6)
 have HG6:=zh (HST1.out.keep HG1.out ht6)
 clear hst6 hel6 ht6 ht5 hx5 hr5 hW6
 obtain ⟨p1,hp1,hn1,hk⟩:=Sy.bnd_split HR2.out
 obtain ⟨p2,hp2⟩:∃p2,r=p2:=⟨_,rfl⟩
 have HP1:=zh hp1
 have HNp1:=zh hn1
 have HP2:=zh (show ∀u7 n7,p1=some (u7,n7)→Sy.over E (Sy.freshD (n+1)) (Sy.form Sy.ifB [Sy.freshD (n+1),Sy.freshD (n+1),u7]) a n7=some p2 from by rw[←hp2];exact hk)
 have HNp2:=zh (show p2=none→r=none from fun h=>by rw[hp2];exact h)
 have HRF:=zh hp2
 clear hp1 hn1 hk hp2
 refine zad (dr:=true) (S:=S) (b:=b) (H:=w.heap.size) 14 [7,13] (fun j=>[(n+1),cnt p1,cnt p2].getD j 0) [.val (.pointer (some ⟨b,0,none⟩)),.dat (some (Sy.freshD (n+1))),.dat (some (Sy.freshD (n+1))),.dat (some (Sy.freshD (n+1))),.val (.pointer (some ⟨b,0,none⟩)),.row (some (x::t)),.row (some (t)),.dat (p1.map (·.1)),.row ((some (Sy.freshD (n+1))).bind fun u0_41=>(some (Sy.freshD (n+1))).bind fun u1_41=>(p1.map (·.1)).bind fun u2_41=>some [u0_41,u1_41,u2_41]),.dat (((some (Sy.freshD (n+1))).bind fun u0_41=>(some (Sy.freshD (n+1))).bind fun u1_41=>(p1.map (·.1)).bind fun u2_41=>some [u0_41,u1_41,u2_41]).map (Sy.form ⟨#[105,102]⟩)),.row (some (a::[])),.elm (some (a)),.dat (some (a)),.dat (p2.map (·.1))] HST6.out (by show zB _ _ 14 97=true;kernel_rfl) (by decide) (by decide) (by kernel_rfl) ?hops ?hcall ?hend
 case hops=>
  intro i o8 hi hip ho a8 w8 hdf hlt8 ht8 hdep hrest
  match i,hi,hip with
  | 0,_,_=>cases ho;exact zab rfl (Sp.at hrest 0 (by kernel_rfl) (rfl) (.inl HST6.out.own) ht8)
  | 1,_,_=>cases ho;exact zak rfl (Sp.at hrest 7 (by kernel_rfl) (HEL6.out) (.inl HST6.out.own) ht8)
  | 2,_,_=>cases ho;exact zak rfl (Sp.at hrest 7 (by kernel_rfl) (HEL6.out) (.inl HST6.out.own) ht8)
  | 3,_,_=>cases ho;exact zak rfl (Sp.at hrest 7 (by kernel_rfl) (HEL6.out) (.inl HST6.out.own) ht8)
  | 4,_,_=>cases ho;exact zab rfl (Sp.at hrest 0 (by kernel_rfl) (rfl) (.inl HST6.out.own) ht8)
  | 5,_,_=>cases ho;exact zab rfl (Sp.at hrest 1 (by kernel_rfl) (HLV6.out) (.inl HST6.out.own) ht8)
  | 6,_,_=>cases ho;exact zaz (k:=1) rfl (Sp.dep hdep 5 38 (by kernel_rfl)) (by decide) (by simp) (by decide)
  | 7,_,h=>exact absurd (by decide) h
  | 8,_,_=>cases ho;exact zbY rfl (Sp.dep hdep 2 35 (by kernel_rfl)) (Sp.dep hdep 3 36 (by kernel_rfl)) (Sp.dep hdep 7 40 (by kernel_rfl)) hlt8
  | 9,_,_=>cases ho;exact za6 rfl (Sp.dep hdep 8 41 (by kernel_rfl)) (by decide) (rowlen3) hlt8
  | 10,_,_=>cases ho;exact zab rfl (Sp.at hrest 5 (by kernel_rfl) (HG6.out) (.inl HST6.out.own) ht8)
  | 11,_,_=>cases ho;exact zar (k:=0) rfl (Sp.dep hdep 10 43 (by kernel_rfl)) rfl (by decide)
  | 12,_,_=>cases ho;exact zak rfl (Sp.dep hdep 11 44 (by kernel_rfl))
  | 13,_,h=>exact absurd (by decide) h
  | i+14,hi,_=>exact absurd hi (by omega)
 case hcall=>
  intro j i o8 hj ho a8 w8 hdf hst8 ht8 hdep hprev hrest
  match j,hj with
  | 0,hj=>
   cases hj;cases ho
   refine zaK (p:=p1) rfl (Sp.dep hdep 4 37 (by kernel_rfl)) (fun _ _=>rfl) (IH.out (S1 S w.heap.size) b _ _ w8 p1 HP1.out hst8.lt (.inl hst8.own) hst8.hx hst8.hE (Sp.data (Sp.dep hdep 6 39 (by kernel_rfl)))) fun hp w9 ht9=>?_
   cases HNp1.out hp;exact ⟨hdf,hst8.bad' ht9⟩
  | 1,hj=>
   cases hj;cases ho
   obtain ⟨y1,m1,hq1⟩:∃y m,p1=some (y,m):=by
    have h:=(Sp.dep hdep 9 42 (by kernel_rfl))
    obtain ⟨_,h,_⟩:=h
    rcases p1 with _ | ⟨y,m⟩
    ·simp at h
    ·exact ⟨y,m,rfl⟩
   have hv0:a8.tmps.getD 33 undef=.pointer (some ⟨b,0,none⟩):=(Sp.dep hdep 0 33 (by kernel_rfl))
   refine zaE (p:=p2) (vals:=#[.pointer (some ⟨b,0,none⟩),a8.tmps.getD 34 undef,a8.tmps.getD 42 undef,a8.tmps.getD 45 undef]) rfl (by simp only[List.map_toArray,List.map_cons,List.map_nil];rw[←hv0];rfl) (fun _ _=>rfl) (zb6 HE.out (S1 S w.heap.size) b (cnt p1) (Sy.freshD (n+1)) (Sy.form Sy.ifB [Sy.freshD (n+1),Sy.freshD (n+1),y1]) a _ _ _ w8 p2 (by rw[hq1];exact HP2.out y1 m1 hq1) hst8.lt (.inl hst8.own) hst8.hx hst8.hE (Sp.datum (Sp.dep hdep 1 34 (by kernel_rfl))) (Sp.datum (x:=Sy.form Sy.ifB [Sy.freshD (n+1),Sy.freshD (n+1),y1]) (by have h:=(Sp.dep hdep 9 42 (by kernel_rfl));subst hq1;exact h)) (Sp.datum (Sp.dep hdep 12 45 (by kernel_rfl)))) fun hp w9 ht9=>?_
   have hrn:=HNp2.out hp
   subst hrn
   exact ⟨hdf,hst8.bad' ht9⟩
  | _+2,hj=>simp at hj
 case hend=>
  intro a8 w8 hdf hsz hst8 ht8 hval hrest
  refine fin_s (r:=r) hst8 (hval 13 _ 46 (by omega) rfl rfl) (fun x8 hx8=>?_) ((hrest.at 4 (by kernel_rfl)).trans rfl) hdf rfl results148 fun w9 h9=>?_
  ·clear hval hrest hdf hsz hst8 ht8
   rcases p2 with _ | ⟨y2,n2⟩
   ·simp at hx8
   rcases p1 with _ | ⟨y1,n1⟩
   ·exact absurd (HRF.out.symm.trans (HNp1.out rfl)) (by simp)
   cases hx8
   exact HRF.out
  ·go_wp2_with fail
theorem zcz (x:Dat) (t:List Dat) (hsx:Sy.small x=true) (htl:t.length≤100000) (a y:Dat) (c:List Dat) (hcl:Sy.clause x t 1=some (a::y::c,false)) (hnm:Sy.isNm y Sy.arrowB=true) (hc3:c.length≠1) (S:Nat→Prop) (b n:Nat) (sl:Value) (w:World) (r:Option (Dat × Nat)) (hr:(Sy.bad:Sy.M Dat) n=some r) (hS:∀c,S c→c<w.heap.size) (hb:S b) (hx:XP w b n) (hV:Env w) (hv:RepS (hide w S) w.heap.size (x::t) sl) :
  Calls prog 148 #[.pointer (some ⟨b,0,none⟩),sl] w (XRes S b r w):=by
 obtain ⟨o,len,cap,rfl,hln,hcp⟩:=Sp.slice (Sp.ofS hv)
 obtain ⟨W0,hW0,hst⟩:=zat hS hb hx hV
 have HST:=zh hst
 have HW0:=zh hW0
 have hge:1≤len:=by rw[hln];simp
 have ht0a:((len:Int)==0)=false:=by simp;omega
 have ht0b:¬len=0:=by omega
 have ht9a:decide ((len:Int) > 0)=true:=by simp;omega
 have ht9b:0<len:=by omega
 have ht9c:((0:Int)<len):=by omega
 have HLV:=zh (hst.first (Sp.ofS hv))
 have HR:=zh hr
 have HC:=zh (hst.clause_some x t (.slice o len cap) 1 _ _ hcl (hst.first (Sp.ofS hv)) hsx (by omega) (by omega) (by omega))
 have HSX:=zh hsx
 have HTL:=zh htl
 clear hst hW0 hv hS hb hx hV hr hln hcp hge hsx htl
 go_enter func148,ntmps148
 go_upto_region 1 with fail
 rw[HW0.out]
 go_upto_region 4 with (first | (go_at_call 163;refine HC.out.mono ?_;rintro e' w1 ⟨oc,lenc,capc,rfl,hg1,hl1,hb1⟩;have HG1:=zh hg1;have HL1:=zh hl1;have HB1:=zh hb1;clear hg1 hl1 hb1) | fail)
 have HST1:=zh (HST.out.below HB1.out)
 have HLV1:=zh (Sp.below HLV.out HB1.out)
 have hlc:lenc=c.length+2:=HL1.out
 have hn1a:((lenc:Int)==1)=false:=by simp;omega
 have hn1b:¬lenc=1:=by omega
 have hn3a:((lenc:Int)==3)=false:=by simp;omega
 have hn3b:¬lenc=3:=by omega
 have hbk1:1<lenc:=by omega
 have hbk2:(1:Int)<lenc:=by omega
 clear hlc
 obtain ⟨c1,off1,rfl,hel⟩:=Sp.nth (j:=1) HG1.out rfl
 obtain ⟨k3,m3,d3,st3,o3,len3,cap3,hxr,e0,e1,e2,e3,e4,el⟩:=Sp.cells hel
 simp only[Nat.one_mul] at e0 e1 e2 e3 e4
 have HIS:=zh (fun w=>zdh (w:=w) y _ Sy.arrowB hxr)
 rw[hnm] at HIS
 clear hel hxr
 have hrn:=Sy.bad_split HR.out
 subst hrn
 go_wp2_with (first | (go_at_call 74;refine (HIS.out _).mono ?_;rintro e' w2 ⟨rfl,hb2⟩;have HB2:=zh hb2;clear hb2) | (go_at_call 30;refine (zaf _).mono ?_;rintro e' wN ⟨rfl,rfl⟩) | fail)
 exact ⟨rfl,HST1.out.bad' (Turned.of_below HB2.out)⟩
theorem zhs {E:Dat→Sy.M Dat} (hE:EOk E) (x:Dat) (t:List Dat) (hsx:Sy.small x=true) (htl:t.length≤100000) (a y g:Dat) (hcl:Sy.clause x t 1=some (a::y::[g],false)) (hnm:Sy.isNm y Sy.arrowB=true) (ih:∀(S:Nat→Prop) (b n:Nat) (sl:Value) (w:World) (r:Option (Dat × Nat)),Sy.condF E t n=some r→(∀c,S c→c<w.heap.size)→S b→XP w b n→Env w→RepS (hide w S) w.heap.size t sl→Calls prog 148 #[.pointer (some ⟨b,0,none⟩),sl] w (XRes S b r w)) (S:Nat→Prop) (b n:Nat) (sl:Value) (w:World) (r:Option (Dat × Nat)) (hr:Sy.bnd Sy.fresh (fun v=>Sy.bnd (E g) fun f=>Sy.bnd (Sy.condF E t) fun d=>Sy.over E v (Sy.form Sy.ifB [v,Dat.list [f,v],d]) a) n=some r) (hS:∀c,S c→c<w.heap.size) (hb:S b) (hx:XP w b n) (hV:Env w) (hv:RepS (hide w S) w.heap.size (x::t) sl) :
  Calls prog 148 #[.pointer (some ⟨b,0,none⟩),sl] w (XRes S b r w):=by
 obtain ⟨o,len,cap,rfl,hln,hcp⟩:=Sp.slice (Sp.ofS hv)
 obtain ⟨W0,hW0,hst⟩:=zat hS hb hx hV
 have HST:=zh hst
 have HW0:=zh hW0
 have hge:1≤len:=by rw[hln];simp
 have ht0a:((len:Int)==0)=false:=by simp;omega
 have ht0b:¬len=0:=by omega
 have ht9a:decide ((len:Int) > 0)=true:=by simp;omega
 have ht9b:0<len:=by omega
 have ht9c:((0:Int)<len):=by omega
 have HLV:=zh (hst.first (Sp.ofS hv))
 have HR:=zh hr
 have HC:=zh (hst.clause_some x t (.slice o len cap) 1 _ _ hcl (hst.first (Sp.ofS hv)) hsx (by omega) (by omega) (by omega))
 have HE:=zh hE
 have HSX:=zh hsx
 have HTL:=zh htl
 have IH:=zh ih
 clear hst hW0 hv hS hb hx hV hr hln hcp hge hE hsx htl ih
 go_enter func148,ntmps148
 go_upto_region 1 with fail
 rw[HW0.out]
 obtain ⟨hfn,hr2⟩:=Sy.fresh_split HR.out
 have HFN:=zh hfn
 have HR2:=zh hr2
 clear hfn hr2
 go_upto_region 4 with (first | (go_at_call 163;refine HC.out.mono ?_;rintro e' w1 ⟨oc,lenc,capc,rfl,hg1,hl1,hb1⟩;have HG1:=zh hg1;have HL1:=zh hl1;have HB1:=zh hb1;clear hg1 hl1 hb1) | fail)
 have HST1:=zh (HST.out.below HB1.out)
 have HLV1:=zh (Sp.below HLV.out HB1.out)
 obtain rfl:lenc=3:=HL1.out
 obtain ⟨c1,off1,rfl,hel⟩:=Sp.nth (j:=1) HG1.out rfl
 obtain ⟨k3,m3,d3,st3,o3,len3,cap3,hxr,e0,e1,e2,e3,e4,el⟩:=Sp.cells hel
 simp only[Nat.one_mul] at e0 e1 e2 e3 e4
 have HIS:=zh (fun w=>zdh (w:=w) y _ Sy.arrowB hxr)
 rw[hnm] at HIS
 clear hel hxr
 go_upto_region 11 with (first | (go_at_call 74;refine (HIS.out _).mono ?_;rintro e' w2 ⟨rfl,hb2⟩;have HB2:=zh hb2;clear hb2) | (go_at_call 30;refine (zag _).mono ?_;rintro e' wN ⟨⟨vN,rfl⟩,rfl⟩) | fail)
 have HST2:=zh (HST1.out.below HB2.out)
 have HLV2:=zh (Sp.below HLV1.out HB2.out)
 have HG2:=zh (Sp.below HG1.out HB2.out)
 clear e0 e1 e2 e3 e4 el
 have HFR:=zh (zbP (S1 S w.heap.size) b n wN HST2.out.lt (.inl HST2.out.own) HST2.out.hx HST2.out.hE HFN.out)
 go_upto_region 12 with (first | (go_at_call 147;refine HFR.out.mono ?_;rintro e' w5 ⟨v5,rfl,hr5,ht5,hx5⟩;obtain ⟨k9,m9,d9,s9,o9,len9,cap9,rfl⟩:=zae hr5.unhide) | fail)
 obtain ⟨W6,hW6⟩:∃W6,w5.alloc (.cells #[.int .i64 k9,.int .i64 m9,.int .i64 d9,.string s9,.slice o9 len9 cap9] 26)=W6:=⟨_,rfl⟩
 obtain ⟨hst6,hel6,ht6⟩:=HST2.out.stored ht5 hx5 hr5 hW6
 rw[hW6]
 have HST6:=zh hst6
 have HEL6:=zh hel6
 have HLV6:=zh (HST2.out.keep HLV2.out ht6)
 have HG6:=zh (HST2.out.keep HG2.out ht6)
 clear hst6 hel6 ht6 ht5 hx5 hr5 hW6
 obtain ⟨p1,hp1,hn1,hk⟩:=Sy.bnd_split HR2.out
 have HP1:=zh hp1
 have HNp1:=zh hn1
 have HK:=zh hk
 clear hp1 hn1 hk
 refine zad (dr:=false) (S:=S) (b:=b) (H:=w.heap.size) 5 [4] (fun j=>[(n+1),cnt p1].getD j 0) [.val (.pointer (some ⟨b,0,none⟩)),.row (some (a::y::g::[])),.elm (some (g)),.dat (some (g)),.dat (p1.map (·.1))] HST6.out (by show zB _ _ 5 97=true;kernel_rfl) (by decide) (by decide) (by kernel_rfl) ?hops ?hcall ?hend
 case hops=>
  intro i o8 hi hip ho a8 w8 hdf hlt8 ht8 hdep hrest
  match i,hi,hip with
  | 0,_,_=>cases ho;exact zab rfl (Sp.at hrest 0 (by kernel_rfl) (rfl) (.inl HST6.out.own) ht8)
  | 1,_,_=>cases ho;exact zab rfl (Sp.at hrest 5 (by kernel_rfl) (HG6.out) (.inl HST6.out.own) ht8)
  | 2,_,_=>cases ho;exact zar (k:=2) rfl (Sp.dep hdep 1 59 (by kernel_rfl)) rfl (by decide)
  | 3,_,_=>cases ho;exact zak rfl (Sp.dep hdep 2 60 (by kernel_rfl))
  | 4,_,h=>exact absurd (by decide) h
  | i+5,hi,_=>exact absurd hi (by omega)
 case hcall=>
  intro j i o8 hj ho a8 w8 hdf hst8 ht8 hdep hprev hrest
  match j,hj with
  | 0,hj=>
   cases hj;cases ho
   refine zaK (p:=p1) rfl (Sp.dep hdep 0 58 (by kernel_rfl)) (fun _ _=>rfl) (HE.out (S1 S w.heap.size) b _ g _ w8 p1 HP1.out hst8.lt (.inl hst8.own) hst8.hx hst8.hE (Sp.datum (Sp.dep hdep 3 61 (by kernel_rfl)))) fun hp w9 ht9=>?_
   cases HNp1.out hp;exact ⟨hdf,hst8.bad' ht9⟩
  | _+1,hj=>simp at hj
 case hend=>
  intro a8 w8 hdf hsz hst8 ht8 hval hrest
  obtain ⟨x8,hx8,hr8⟩:∃x8,p1.map (·.1)=some x8∧RepD (hide w8 (S1 S w.heap.size)) w8.heap.size x8 (a8.tmps.getD 62 undef):=hval 4 _ 62 (by omega) rfl rfl
  rcases p1 with _ | ⟨y1,n1⟩
  ·simp at hx8
  have hx9:some (y1)=some x8:=hx8
  obtain rfl:=Option.some.inj hx9
  obtain ⟨f8,ha,hf8⟩:=zaq [false,false,false,false,false,false,false,false,false,false,false,false,false,false,false,false,false,false,false,false,false,false,false,false,false,false,false,false,false,false,false,false,false,false,false,false,false,false,false,false,false,false,false,false,false,false,false,false,false,false,false,false,false,false,false,false,false,false,true,true,true,true,true] (by kernel_rfl) hdf hsz hrest
  rw[←hf8] at hr8
  subst ha
  obtain ⟨k8,m8,d8,s8,o8,len8,cap8,h8⟩:=zae hr8.unhide
  rw[h8] at hr8
  obtain ⟨W8,hW8⟩:∃W8,w8.alloc (.cells #[.int .i64 k8,.int .i64 m8,.int .i64 d8,.string s8,.slice o8 len8 cap8] 26)=W8:=⟨_,rfl⟩
  obtain ⟨hst9,hel9,ht9⟩:=(show XS S b w.heap.size n1 w w8 from hst8).stored (Turned.refl _ _) hst8.hx hr8 hW8
  have HST7:=zh hst9
  have HEL7:=zh hel9
  have HW8:=zh hW8
  have HLV7:=zh (HST6.out.keep (HLV6.out) (ht8.next ht9))
  have HG7:=zh (HST6.out.keep (HG6.out) (ht8.next ht9))
  have HEL8:=zh (HST6.out.keep (HEL6.out) (ht8.next ht9))
  clear hval hrest hf8 hdf hsz hr8 hst8 ht8 hx8 hx9 hst9 hel9 ht9 hW8
  simp only[spellH,List.drop_succ_cons,List.drop_zero,h8]
  go_upto_region 13 with fail
  rw[HW8.out]
  clear HW8
  have HR3:=zh (HK.out y1 n1 rfl)
  clear HP1 HNp1 HK
  obtain ⟨p1,hp1,hn1,hk⟩:=Sy.bnd_split HR3.out
  obtain ⟨p2,hp2⟩:∃p2,r=p2:=⟨_,rfl⟩
  have HP1:=zh hp1
  have HNp1:=zh hn1
  have HP2:=zh (show ∀u7 n7,p1=some (u7,n7)→Sy.over E (Sy.freshD (n+1)) (Sy.form Sy.ifB [Sy.freshD (n+1),Dat.list [y1,Sy.freshD (n+1)],u7]) a n7=some p2 from by rw[←hp2];exact hk)
  have HNp2:=zh (show p2=none→r=none from fun h=>by rw[hp2];exact h)
  have HRF:=zh hp2
  clear hp1 hn1 hk hp2
  refine zad (dr:=true) (S:=S) (b:=b) (H:=w.heap.size) 17 [10,16] (fun j=>[n1,cnt p1,cnt p2].getD j 0) [.val (.pointer (some ⟨b,0,none⟩)),.dat (some (Sy.freshD (n+1))),.dat (some (Sy.freshD (n+1))),.dat (some (y1)),.dat (some (Sy.freshD (n+1))),.row ((some (y1)).bind fun u0_68=>(some (Sy.freshD (n+1))).bind fun u1_68=>some [u0_68,u1_68]),.dat (((some (y1)).bind fun u0_68=>(some (Sy.freshD (n+1))).bind fun u1_68=>some [u0_68,u1_68]).map Dat.list),.val (.pointer (some ⟨b,0,none⟩)),.row (some (x::t)),.row (some (t)),.dat (p1.map (·.1)),.row ((some (Sy.freshD (n+1))).bind fun u0_74=>(((some (y1)).bind fun u0_68=>(some (Sy.freshD (n+1))).bind fun u1_68=>some [u0_68,u1_68]).map Dat.list).bind fun u1_74=>(p1.map (·.1)).bind fun u2_74=>some [u0_74,u1_74,u2_74]),.dat (((some (Sy.freshD (n+1))).bind fun u0_74=>(((some (y1)).bind fun u0_68=>(some (Sy.freshD (n+1))).bind fun u1_68=>some [u0_68,u1_68]).map Dat.list).bind fun u1_74=>(p1.map (·.1)).bind fun u2_74=>some [u0_74,u1_74,u2_74]).map (Sy.form ⟨#[105,102]⟩)),.row (some (a::y::g::[])),.elm (some (a)),.dat (some (a)),.dat (p2.map (·.1))] HST7.out (by show zB _ _ 17 97=true;kernel_rfl) (by decide) (by decide) (by kernel_rfl) ?hops ?hcall ?hend
  case hops=>
   intro i o8 hi hip ho a8 w8 hdf hlt8 ht8 hdep hrest
   match i,hi,hip with
   | 0,_,_=>cases ho;exact zab rfl (Sp.at hrest 0 (by kernel_rfl) (rfl) (.inl HST7.out.own) ht8)
   | 1,_,_=>cases ho;exact zak rfl (Sp.at hrest 8 (by kernel_rfl) (HEL8.out) (.inl HST7.out.own) ht8)
   | 2,_,_=>cases ho;exact zak rfl (Sp.at hrest 8 (by kernel_rfl) (HEL8.out) (.inl HST7.out.own) ht8)
   | 3,_,_=>cases ho;exact zak rfl (Sp.at hrest 9 (by kernel_rfl) (HEL7.out) (.inl HST7.out.own) ht8)
   | 4,_,_=>cases ho;exact zak rfl (Sp.at hrest 8 (by kernel_rfl) (HEL8.out) (.inl HST7.out.own) ht8)
   | 5,_,_=>cases ho;exact zdx rfl (Sp.dep hdep 3 66 (by kernel_rfl)) (Sp.dep hdep 4 67 (by kernel_rfl)) hlt8
   | 6,_,_=>cases ho;exact zb3 rfl (Sp.dep hdep 5 68 (by kernel_rfl)) hlt8
   | 7,_,_=>cases ho;exact zab rfl (Sp.at hrest 0 (by kernel_rfl) (rfl) (.inl HST7.out.own) ht8)
   | 8,_,_=>cases ho;exact zab rfl (Sp.at hrest 1 (by kernel_rfl) (HLV7.out) (.inl HST7.out.own) ht8)
   | 9,_,_=>cases ho;exact zaz (k:=1) rfl (Sp.dep hdep 8 71 (by kernel_rfl)) (by decide) (by simp) (by decide)
   | 10,_,h=>exact absurd (by decide) h
   | 11,_,_=>cases ho;exact zbY rfl (Sp.dep hdep 2 65 (by kernel_rfl)) (Sp.dep hdep 6 69 (by kernel_rfl)) (Sp.dep hdep 10 73 (by kernel_rfl)) hlt8
   | 12,_,_=>cases ho;exact za6 rfl (Sp.dep hdep 11 74 (by kernel_rfl)) (by decide) (rowlen3) hlt8
   | 13,_,_=>cases ho;exact zab rfl (Sp.at hrest 5 (by kernel_rfl) (HG7.out) (.inl HST7.out.own) ht8)
   | 14,_,_=>cases ho;exact zar (k:=0) rfl (Sp.dep hdep 13 76 (by kernel_rfl)) rfl (by decide)
   | 15,_,_=>cases ho;exact zak rfl (Sp.dep hdep 14 77 (by kernel_rfl))
   | 16,_,h=>exact absurd (by decide) h
   | i+17,hi,_=>exact absurd hi (by omega)
  case hcall=>
   intro j i o8 hj ho a8 w8 hdf hst8 ht8 hdep hprev hrest
   match j,hj with
   | 0,hj=>
    cases hj;cases ho
    refine zaK (p:=p1) rfl (Sp.dep hdep 7 70 (by kernel_rfl)) (fun _ _=>rfl) (IH.out (S1 S w.heap.size) b _ _ w8 p1 HP1.out hst8.lt (.inl hst8.own) hst8.hx hst8.hE (Sp.data (Sp.dep hdep 9 72 (by kernel_rfl)))) fun hp w9 ht9=>?_
    cases HNp1.out hp;exact ⟨hdf,hst8.bad' ht9⟩
   | 1,hj=>
    cases hj;cases ho
    obtain ⟨y3,m1,hq1⟩:∃y m,p1=some (y,m):=by
     have h:=(Sp.dep hdep 12 75 (by kernel_rfl))
     obtain ⟨_,h,_⟩:=h
     rcases p1 with _ | ⟨y,m⟩
     ·simp at h
     ·exact ⟨y,m,rfl⟩
    have hv0:a8.tmps.getD 63 undef=.pointer (some ⟨b,0,none⟩):=(Sp.dep hdep 0 63 (by kernel_rfl))
    refine zaE (p:=p2) (vals:=#[.pointer (some ⟨b,0,none⟩),a8.tmps.getD 64 undef,a8.tmps.getD 75 undef,a8.tmps.getD 78 undef]) rfl (by simp only[List.map_toArray,List.map_cons,List.map_nil];rw[←hv0];rfl) (fun _ _=>rfl) (zb6 HE.out (S1 S w.heap.size) b (cnt p1) (Sy.freshD (n+1)) (Sy.form Sy.ifB [Sy.freshD (n+1),Dat.list [y1,Sy.freshD (n+1)],y3]) a _ _ _ w8 p2 (by rw[hq1];exact HP2.out y3 m1 hq1) hst8.lt (.inl hst8.own) hst8.hx hst8.hE (Sp.datum (Sp.dep hdep 1 64 (by kernel_rfl))) (Sp.datum (x:=Sy.form Sy.ifB [Sy.freshD (n+1),Dat.list [y1,Sy.freshD (n+1)],y3]) (by have h:=(Sp.dep hdep 12 75 (by kernel_rfl));subst hq1;exact h)) (Sp.datum (Sp.dep hdep 15 78 (by kernel_rfl)))) fun hp w9 ht9=>?_
    have hrn:=HNp2.out hp
    subst hrn
    exact ⟨hdf,hst8.bad' ht9⟩
   | _+2,hj=>simp at hj
  case hend=>
   intro a8 w8 hdf hsz hst8 ht8 hval hrest
   refine fin_s (r:=r) hst8 (hval 16 _ 79 (by omega) rfl rfl) (fun x8 hx8=>?_) ((hrest.at 4 (by kernel_rfl)).trans rfl) hdf rfl results148 fun w9 h9=>?_
   ·clear hval hrest hdf hsz hst8 ht8
    rcases p2 with _ | ⟨y2,n2⟩
    ·simp at hx8
    rcases p1 with _ | ⟨y3,n3⟩
    ·exact absurd (HRF.out.symm.trans (HNp1.out rfl)) (by simp)
    cases hx8
    exact HRF.out
   ·go_wp2_with fail
theorem zkL {E:Dat→Sy.M Dat} (hE:EOk E) (x:Dat) (t:List Dat) (hsx:Sy.small x=true) (htl:t.length≤100000) (a y:Dat) (c:List Dat) (hcl:Sy.clause x t 1=some (a::y::c,false)) (hcl2:c.length≤99997) (hnm:Sy.isNm y Sy.arrowB=false) (ih:∀(S:Nat→Prop) (b n:Nat) (sl:Value) (w:World) (r:Option (Dat × Nat)),Sy.condF E t n=some r→(∀c,S c→c<w.heap.size)→S b→XP w b n→Env w→RepS (hide w S) w.heap.size t sl→Calls prog 148 #[.pointer (some ⟨b,0,none⟩),sl] w (XRes S b r w)) (S:Nat→Prop) (b n:Nat) (sl:Value) (w:World) (r:Option (Dat × Nat)) (hr:Sy.bnd (E a) (fun y7=>Sy.bnd (Sy.begin E (y::c)) fun z=>Sy.bnd (Sy.condF E t) fun d=>Sy.ret (Sy.form Sy.ifB [y7,z,d])) n=some r) (hS:∀c,S c→c<w.heap.size) (hb:S b) (hx:XP w b n) (hV:Env w) (hv:RepS (hide w S) w.heap.size (x::t) sl) :
  Calls prog 148 #[.pointer (some ⟨b,0,none⟩),sl] w (XRes S b r w):=by
 obtain ⟨o,len,cap,rfl,hln,hcp⟩:=Sp.slice (Sp.ofS hv)
 obtain ⟨W0,hW0,hst⟩:=zat hS hb hx hV
 have HST:=zh hst
 have HW0:=zh hW0
 have hge:1≤len:=by rw[hln];simp
 have ht0a:((len:Int)==0)=false:=by simp;omega
 have ht0b:¬len=0:=by omega
 have ht9a:decide ((len:Int) > 0)=true:=by simp;omega
 have ht9b:0<len:=by omega
 have ht9c:((0:Int)<len):=by omega
 have HLV:=zh (hst.first (Sp.ofS hv))
 have HR:=zh hr
 have HC:=zh (hst.clause_some x t (.slice o len cap) 1 _ _ hcl (hst.first (Sp.ofS hv)) hsx (by omega) (by omega) (by omega))
 have HCL:=zh hcl2
 clear hcl2
 have HE:=zh hE
 have HSX:=zh hsx
 have HTL:=zh htl
 have IH:=zh ih
 clear hst hW0 hv hS hb hx hV hr hln hcp hge hE hsx htl ih
 go_enter func148,ntmps148
 go_upto_region 1 with fail
 rw[HW0.out]
 go_upto_region 4 with (first | (go_at_call 163;refine HC.out.mono ?_;rintro e' w1 ⟨oc,lenc,capc,rfl,hg1,hl1,hb1⟩;have HG1:=zh hg1;have HL1:=zh hl1;have HB1:=zh hb1;clear hg1 hl1 hb1) | fail)
 have HST1:=zh (HST.out.below HB1.out)
 have HLV1:=zh (Sp.below HLV.out HB1.out)
 have hlc:lenc=c.length+2:=HL1.out
 have hn1a:((lenc:Int)==1)=false:=by simp;omega
 have hn1b:¬lenc=1:=by omega
 have hbk1:1<lenc:=by omega
 have hbk2:(1:Int)<lenc:=by omega
 clear hlc
 obtain ⟨c1,off1,rfl,hel⟩:=Sp.nth (j:=1) HG1.out rfl
 obtain ⟨k3,m3,d3,st3,o3,len3,cap3,hxr,e0,e1,e2,e3,e4,el⟩:=Sp.cells hel
 simp only[Nat.one_mul] at e0 e1 e2 e3 e4
 have HIS:=zh (fun w=>zdh (w:=w) y _ Sy.arrowB hxr)
 rw[hnm] at HIS
 clear hel hxr
 go_upto_region 14 with (first | (go_at_call 74;refine (HIS.out _).mono ?_;rintro e' w2 ⟨rfl,hb2⟩;have HB2:=zh hb2;clear hb2) | fail)
 have HST2:=zh (HST1.out.below HB2.out)
 have HLV2:=zh (Sp.below HLV1.out HB2.out)
 have HG2:=zh (Sp.below HG1.out HB2.out)
 clear e0 e1 e2 e3 e4 el
 obtain ⟨p1,hp1,hn1,hk⟩:=Sy.bnd_split HR.out
 have HP1:=zh hp1
 have HNp1:=zh hn1
 have HK:=zh hk
 clear hp1 hn1 hk
 refine zad (dr:=false) (S:=S) (b:=b) (H:=w.heap.size) 5 [4] (fun j=>[n,cnt p1].getD j 0) [.val (.pointer (some ⟨b,0,none⟩)),.row (some (a::y::c)),.elm (some (a)),.dat (some (a)),.dat (p1.map (·.1))] HST2.out (by show zB _ _ 5 97=true;kernel_rfl) (by decide) (by decide) (by kernel_rfl) ?hops ?hcall ?hend
 case hops=>
  intro i o8 hi hip ho a8 w8 hdf hlt8 ht8 hdep hrest
  match i,hi,hip with
  | 0,_,_=>cases ho;exact zab rfl (Sp.at hrest 0 (by kernel_rfl) (rfl) (.inl HST2.out.own) ht8)
  | 1,_,_=>cases ho;exact zab rfl (Sp.at hrest 5 (by kernel_rfl) (HG2.out) (.inl HST2.out.own) ht8)
  | 2,_,_=>cases ho;exact zar (k:=0) rfl (Sp.dep hdep 1 81 (by kernel_rfl)) rfl (by decide)
  | 3,_,_=>cases ho;exact zak rfl (Sp.dep hdep 2 82 (by kernel_rfl))
  | 4,_,h=>exact absurd (by decide) h
  | i+5,hi,_=>exact absurd hi (by omega)
 case hcall=>
  intro j i o8 hj ho a8 w8 hdf hst8 ht8 hdep hprev hrest
  match j,hj with
  | 0,hj=>
   cases hj;cases ho
   refine zaK (p:=p1) rfl (Sp.dep hdep 0 80 (by kernel_rfl)) (fun _ _=>rfl) (HE.out (S1 S w.heap.size) b _ a _ w8 p1 HP1.out hst8.lt (.inl hst8.own) hst8.hx hst8.hE (Sp.datum (Sp.dep hdep 3 83 (by kernel_rfl)))) fun hp w9 ht9=>?_
   cases HNp1.out hp;exact ⟨hdf,hst8.bad' ht9⟩
  | _+1,hj=>simp at hj
 case hend=>
  intro a8 w8 hdf hsz hst8 ht8 hval hrest
  obtain ⟨x8,hx8,hr8⟩:∃x8,p1.map (·.1)=some x8∧RepD (hide w8 (S1 S w.heap.size)) w8.heap.size x8 (a8.tmps.getD 84 undef):=hval 4 _ 84 (by omega) rfl rfl
  rcases p1 with _ | ⟨y1,n1⟩
  ·simp at hx8
  have hx9:some (y1)=some x8:=hx8
  obtain rfl:=Option.some.inj hx9
  obtain ⟨f8,ha,hf8⟩:=zaq [false,false,false,false,false,false,false,false,false,false,false,false,false,false,false,false,false,false,false,false,false,false,false,false,false,false,false,false,false,false,false,false,false,false,false,false,false,false,false,false,false,false,false,false,false,false,false,false,false,false,false,false,false,false,false,false,false,false,false,false,false,false,false,false,false,false,false,false,false,false,false,false,false,false,false,false,false,false,false,false,true,true,true,true,true] (by kernel_rfl) hdf hsz hrest
  rw[←hf8] at hr8
  subst ha
  obtain ⟨k8,m8,d8,s8,o8,len8,cap8,h8⟩:=zae hr8.unhide
  rw[h8] at hr8
  obtain ⟨W8,hW8⟩:∃W8,w8.alloc (.cells #[.int .i64 k8,.int .i64 m8,.int .i64 d8,.string s8,.slice o8 len8 cap8] 26)=W8:=⟨_,rfl⟩
  obtain ⟨hst9,hel9,ht9⟩:=(show XS S b w.heap.size n1 w w8 from hst8).stored (Turned.refl _ _) hst8.hx hr8 hW8
  have HST7:=zh hst9
  have HEL7:=zh hel9
  have HW8:=zh hW8
  have HLV7:=zh (HST2.out.keep (HLV2.out) (ht8.next ht9))
  have HG7:=zh (HST2.out.keep (HG2.out) (ht8.next ht9))
  clear hval hrest hf8 hdf hsz hr8 hst8 ht8 hx8 hx9 hst9 hel9 ht9 hW8
  simp only[spellH,List.drop_succ_cons,List.drop_zero,h8]
  go_upto_region 15 with fail
  rw[HW8.out]
  clear HW8
  have HR3:=zh (HK.out y1 n1 rfl)
  clear HP1 HNp1 HK
  obtain ⟨p1,hp1,hn1,hk⟩:=Sy.bnd_split HR3.out
  have HP1:=zh hp1
  have HNp1:=zh hn1
  have HK:=zh hk
  clear hp1 hn1 hk
  refine zad (dr:=false) (S:=S) (b:=b) (H:=w.heap.size) 4 [3] (fun j=>[n1,cnt p1].getD j 0) [.val (.pointer (some ⟨b,0,none⟩)),.row (some (a::y::c)),.row (some (y::c)),.dat (p1.map (·.1))] HST7.out (by show zB _ _ 4 97=true;kernel_rfl) (by decide) (by decide) (by kernel_rfl) ?hops ?hcall ?hend
  case hops=>
   intro i o8 hi hip ho a8 w8 hdf hlt8 ht8 hdep hrest
   match i,hi,hip with
   | 0,_,_=>cases ho;exact zab rfl (Sp.at hrest 0 (by kernel_rfl) (rfl) (.inl HST7.out.own) ht8)
   | 1,_,_=>cases ho;exact zab rfl (Sp.at hrest 5 (by kernel_rfl) (HG7.out) (.inl HST7.out.own) ht8)
   | 2,_,_=>cases ho;exact zaz (k:=1) rfl (Sp.dep hdep 1 86 (by kernel_rfl)) (by decide) (by simp) (by decide)
   | 3,_,h=>exact absurd (by decide) h
   | i+4,hi,_=>exact absurd hi (by omega)
  case hcall=>
   intro j i o8 hj ho a8 w8 hdf hst8 ht8 hdep hprev hrest
   match j,hj with
   | 0,hj=>
    cases hj;cases ho
    refine zaK (p:=p1) rfl (Sp.dep hdep 0 85 (by kernel_rfl)) (fun _ _=>rfl) (zaQ HE.out (S1 S w.heap.size) b _ (y::c) _ w8 p1 HP1.out hst8.lt (.inl hst8.own) hst8.hx hst8.hE (Sp.data (Sp.dep hdep 2 87 (by kernel_rfl))) (by have:=HCL.out;simp only[List.length_cons];omega)) fun hp w9 ht9=>?_
    cases HNp1.out hp;exact ⟨hdf,hst8.bad' ht9⟩
   | _+1,hj=>simp at hj
  case hend=>
   intro a8 w8 hdf hsz hst8 ht8 hval hrest
   obtain ⟨x8,hx8,hr8⟩:∃x8,p1.map (·.1)=some x8∧RepD (hide w8 (S1 S w.heap.size)) w8.heap.size x8 (a8.tmps.getD 88 undef):=hval 3 _ 88 (by omega) rfl rfl
   rcases p1 with _ | ⟨z1,n2⟩
   ·simp at hx8
   have hx9:some (z1)=some x8:=hx8
   obtain rfl:=Option.some.inj hx9
   obtain ⟨f8,ha,hf8⟩:=zaq [false,false,false,false,false,false,false,false,false,false,false,false,false,false,false,false,false,false,false,false,false,false,false,false,false,false,false,false,false,false,false,false,false,false,false,false,false,false,false,false,false,false,false,false,false,false,false,false,false,false,false,false,false,false,false,false,false,false,false,false,false,false,false,false,false,false,false,false,false,false,false,false,false,false,false,false,false,false,false,false,false,false,false,false,false,true,true,true,true] (by kernel_rfl) hdf hsz hrest
   rw[←hf8] at hr8
   subst ha
   obtain ⟨k8,m8,d8,s8,o8,len8,cap8,h8⟩:=zae hr8.unhide
   rw[h8] at hr8
   obtain ⟨W8,hW8⟩:∃W8,w8.alloc (.cells #[.int .i64 k8,.int .i64 m8,.int .i64 d8,.string s8,.slice o8 len8 cap8] 26)=W8:=⟨_,rfl⟩
   obtain ⟨hst9,hel9,ht9⟩:=(show XS S b w.heap.size n2 w w8 from hst8).stored (Turned.refl _ _) hst8.hx hr8 hW8
   have HST8:=zh hst9
   have HEL8:=zh hel9
   have HW8:=zh hW8
   have HLV8:=zh (HST7.out.keep (HLV7.out) (ht8.next ht9))
   have HEL9:=zh (HST7.out.keep (HEL7.out) (ht8.next ht9))
   clear hval hrest hf8 hdf hsz hr8 hst8 ht8 hx8 hx9 hst9 hel9 ht9 hW8
   simp only[spellH,List.drop_succ_cons,List.drop_zero,h8]
   go_upto_region 16 with fail
   rw[HW8.out]
   clear HW8
   have HR5:=zh (HK.out z1 n2 rfl)
   clear HP1 HNp1 HK
   obtain ⟨p1,hp1,hn1,hk⟩:=Sy.bnd_split HR5.out
   have HP1:=zh hp1
   have HNp1:=zh hn1
   have HRF:=zh hk
   clear hp1 hn1 hk
   refine zad (dr:=true) (S:=S) (b:=b) (H:=w.heap.size) 8 [5] (fun j=>[n2,cnt p1].getD j 0) [.dat (some (y1)),.dat (some (z1)),.val (.pointer (some ⟨b,0,none⟩)),.row (some (x::t)),.row (some (t)),.dat (p1.map (·.1)),.row ((some (y1)).bind fun u0_95=>(some (z1)).bind fun u1_95=>(p1.map (·.1)).bind fun u2_95=>some [u0_95,u1_95,u2_95]),.dat (((some (y1)).bind fun u0_95=>(some (z1)).bind fun u1_95=>(p1.map (·.1)).bind fun u2_95=>some [u0_95,u1_95,u2_95]).map (Sy.form ⟨#[105,102]⟩))] HST8.out (by show zB _ _ 8 97=true;kernel_rfl) (by decide) (by decide) (by kernel_rfl) ?hops ?hcall ?hend
   case hops=>
    intro i o8 hi hip ho a8 w8 hdf hlt8 ht8 hdep hrest
    match i,hi,hip with
    | 0,_,_=>cases ho;exact zak rfl (Sp.at hrest 10 (by kernel_rfl) (HEL9.out) (.inl HST8.out.own) ht8)
    | 1,_,_=>cases ho;exact zak rfl (Sp.at hrest 11 (by kernel_rfl) (HEL8.out) (.inl HST8.out.own) ht8)
    | 2,_,_=>cases ho;exact zab rfl (Sp.at hrest 0 (by kernel_rfl) (rfl) (.inl HST8.out.own) ht8)
    | 3,_,_=>cases ho;exact zab rfl (Sp.at hrest 1 (by kernel_rfl) (HLV8.out) (.inl HST8.out.own) ht8)
    | 4,_,_=>cases ho;exact zaz (k:=1) rfl (Sp.dep hdep 3 92 (by kernel_rfl)) (by decide) (by simp) (by decide)
    | 5,_,h=>exact absurd (by decide) h
    | 6,_,_=>cases ho;exact zbY rfl (Sp.dep hdep 0 89 (by kernel_rfl)) (Sp.dep hdep 1 90 (by kernel_rfl)) (Sp.dep hdep 5 94 (by kernel_rfl)) hlt8
    | 7,_,_=>cases ho;exact za6 rfl (Sp.dep hdep 6 95 (by kernel_rfl)) (by decide) (rowlen3) hlt8
    | i+8,hi,_=>exact absurd hi (by omega)
   case hcall=>
    intro j i o8 hj ho a8 w8 hdf hst8 ht8 hdep hprev hrest
    match j,hj with
    | 0,hj=>
     cases hj;cases ho
     refine zaK (p:=p1) rfl (Sp.dep hdep 2 91 (by kernel_rfl)) (fun _ _=>rfl) (IH.out (S1 S w.heap.size) b _ _ w8 p1 HP1.out hst8.lt (.inl hst8.own) hst8.hx hst8.hE (Sp.data (Sp.dep hdep 4 93 (by kernel_rfl)))) fun hp w9 ht9=>?_
     cases HNp1.out hp;exact ⟨hdf,hst8.bad' ht9⟩
    | _+1,hj=>simp at hj
   case hend=>
    intro a8 w8 hdf hsz hst8 ht8 hval hrest
    refine fin_s (r:=r) hst8 (hval 7 _ 96 (by omega) rfl rfl) (fun x8 hx8=>?_) ((hrest.at 4 (by kernel_rfl)).trans rfl) hdf rfl results148 fun w9 h9=>?_
    ·clear hval hrest hdf hsz hst8 ht8
     rcases p1 with _ | ⟨y3,n3⟩
     ·simp at hx8
     cases hx8
     exact Sy.ret_split (HRF.out _ _ rfl)
    ·go_wp2_with fail
theorem zgK {E:Dat→Sy.M Dat} (hE:EOk E):∀(l:List Dat),(∀y∈l,Sy.small y=true)→l.length≤99999→∀(S:Nat→Prop) (b n:Nat) (sl:Value) (w:World) (r:Option (Dat × Nat)),Sy.condF E l n=some r→(∀c,S c→c<w.heap.size)→S b→XP w b n→Env w→RepS (hide w S) w.heap.size l sl→Calls prog 148 #[.pointer (some ⟨b,0,none⟩),sl] w (XRes S b r w)
 | [],_,_,S,b,n,sl,w,r,hr,hS,hb,hx,hV,hv=>zjw S b n sl w r hr hS hb hx hV hv
 | x::t,hsm,hlen,S,b,n,sl,w,r,hr,hS,hb,hx,hV,hv=>by
  have ih:=zgK hE t (fun y hy=>hsm y (List.mem_cons_of_mem _ hy)) (by simp only[List.length_cons] at hlen;omega)
  have hsx:=hsm x List.mem_cons_self
  have htl:t.length≤100000:=by simp only[List.length_cons] at hlen;omega
  have hcl:∀c last,Sy.clause x t 1=some (c,last)→c.length≤99999∧1≤c.length:=fun c last h=>by
   unfold Sy.clause at h
   split at h
   ·rename_i h1
    split at h
    ·obtain ⟨rfl,_⟩:=Prod.mk.inj (Option.some.inj h)
     have:=za4 x
     have:=(Sy.small_iff.1 hsx).2
     exact ⟨by omega,h1.2⟩
    ·cases h
   ·cases h
  match hc:Sy.clause x t 1 with
  | none=>exact ziQ x t hsx htl hc S b n sl w r (by rw[Sy.condF,hc] at hr;exact hr) hS hb hx hV hv
  | some (a::c,true)=>exact ziq hE x t hsx htl a c hc (by have:=(hcl _ _ hc).1;simp only[List.length_cons] at this;omega) S b n sl w r (by rw[Sy.condF,hc] at hr;exact hr) hS hb hx hV hv
  | some ([],q)=>exfalso;have:=(hcl _ _ hc).2;simp at this
  | some ([a],false)=>exact zj7 hE x t hsx htl a hc ih S b n sl w r (by rw[Sy.condF,hc] at hr;exact hr) hS hb hx hV hv
  | some (a::y::c,false)=>
   cases hnm:Sy.isNm y Sy.arrowB with
   | false=>exact zkL hE x t hsx htl a y c hc (by have:=(hcl _ _ hc).1;simp only[List.length_cons] at this;omega) hnm ih S b n sl w r (by rw[Sy.condF,hc] at hr;simp only[hnm,Bool.false_eq_true,if_false] at hr;exact hr) hS hb hx hV hv
   | true=>
    match c,hc with
    | [g],hc=>exact zhs hE x t hsx htl a y g hc hnm ih S b n sl w r (by rw[Sy.condF,hc] at hr;simp only[hnm,if_true] at hr;exact hr) hS hb hx hV hv
    | [],hc=>exact zcz x t hsx htl a y [] hc hnm (by simp) S b n sl w r (by rw[Sy.condF,hc] at hr;simp only[hnm,if_true] at hr;exact hr) hS hb hx hV hv
    | _::_::_,hc=>exact zcz x t hsx htl a y _ hc hnm (by simp) S b n sl w r (by rw[Sy.condF,hc] at hr;simp only[hnm,if_true] at hr;exact hr) hS hb hx hV hv
end
end Go.Proofs.YtnbjhmafnigefaaGreatDoor
