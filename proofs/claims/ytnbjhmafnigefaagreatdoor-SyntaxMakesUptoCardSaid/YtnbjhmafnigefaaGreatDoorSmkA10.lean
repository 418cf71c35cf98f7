/- .. -/
import Derived.ArgAppend
import Derived.Test.YtnbjhmafnigefaaGreatDoorSmkA09
open Go.Proofs.Tryz
set_option maxRecDepth 100000
set_option maxHeartbeats 16000000
namespace Go.Proofs.YtnbjhmafnigefaaGreatDoor
section
open Go Go.RowKit
namespace Sy
theorem all_len {E:Dat→M Dat}:∀{l:List Dat} {n:Nat} {ys:List Dat} {n':Nat},all E l n=some (some (ys,n'))→ys.length=l.length
 | [],n,ys,n',h=>by
  simp only[all,ret,Option.some.injEq,Prod.mk.injEq] at h
  rw[←h.1]
 | x::l,n,ys,n',h=>by
  simp only[all,bnd] at h
  cases h1:E x n with
  | none=>rw[h1] at h;cases h
  | some q=>
   rw[h1] at h
   cases q with
   | none=>cases h
   | some p=>
    simp only at h
    cases h2:all E l p.2 with
    | none=>rw[h2] at h;cases h
    | some q2=>
     rw[h2] at h
     cases q2 with
     | none=>cases h
     | some p2=>
      have h3:=all_len (ys:=p2.1) (n':=p2.2) h2
      simp only[ret,Option.some.injEq,Prod.mk.injEq] at h
      rw[←h.1,List.length_cons,List.length_cons,h3]
end Sy
theorem XP.keepB {W W':World} {b n:Nat} (h:XP W b n) (hb:Below W.heap.size W W'):XP W' b n:=BoxL.keep h hb
theorem zb1 {w W:World} {S:Nat→Prop} {H b m:Nat} {x:Dat} {k n d:Int} {s:ByteArray} {o:Option Addr} {len cap:Nat} (hH:w.heap.size≤H) (hb:b<w.heap.size) (ht:Turned (fun c=>c=b) w W) (hx:RepD (hide W (S1 S H)) W.heap.size x (.agg #[.int .i64 k,.int .i64 n,.int .i64 d,.string s,.slice o len cap])) (hp:XP W b m) :
  XPost S b x m w (.returned (.agg #[.int .i64 k,.int .i64 n,.int .i64 d,.string s,.slice o len cap])) (set5 W H (.int .i64 k) (.int .i64 n) (.int .i64 d) (.string s) (.slice o len cap)):=
 ⟨_,rfl,hx.shown ((Shown.five W (S:=S1 S H) (.inr rfl) _ _ _ _ _).trans (Shown.less _ fun _ _ h=>.inl h)) (by rw[zao];exact Nat.le_refl _),ht.seq (zah _ _ _ _ _ _ _ _ hH),(zal W _ _ _ _ _ _ (by omega)).trans hp⟩
theorem zaQ {E:Dat→Sy.M Dat} (hE:EOk E) (S:Nat→Prop) (b n:Nat) (l:List Dat) (sl:Value) (w:World) (r:Option (Dat × Nat)) (hr:Sy.begin E l n=some r) (hS:∀c,S c→c<w.heap.size) (hb:S b) (hx:XP w b n) (hV:Env w) (hv:RepS (hide w S) w.heap.size l sl) (hl:l.length≤100000) :
  Calls prog 51 #[.pointer (some ⟨b,0,none⟩),sl] w (XRes S b r w):=by
 obtain ⟨o,len,cap,rfl,hln,hcp,hmx, -⟩:=id hv
 obtain ⟨W0,hW0⟩:∃W0,w.alloc (.cells #[.int .i64 0,.int .i64 0,.int .i64 0,.string ⟨#[]⟩,.slice none 0 0] 26)=W0:=⟨_,rfl⟩
 have hbl:Below w.heap.size w W0:=by rw[←hW0];exact Below.one _ _
 have hbx:Box5 W0 w.heap.size 26 (.int .i64 0) (.int .i64 0) (.int .i64 0) (.string ⟨#[]⟩) (.slice none 0 0):=by rw[←hW0];exact Box5.new w _ _ _ _ _ _
 have hS1:∀c,S1 S w.heap.size c→c<W0.heap.size:=s1_lt hS hbx.lt
 have hl0:RepS (hide W0 (S1 S w.heap.size)) W0.heap.size l (.slice o len cap):=hv.shown (za2 rfl hbl) hbl.size
 have HBX:=zh hbx
 have HBL:=zh hbl
 have HW0:=zh hW0
 have HLT:=zh (hS b hb)
 by_cases hnil:l=[]
 ·subst hnil
  have hl00:len=0:=by simpa using hln
  subst hl00
  have hrn:r=none:=by
   simp only[Sy.begin,Sy.need,List.isEmpty_nil,Bool.not_true,Bool.false_eq_true,if_false,Sy.bad] at hr
   exact (Option.some.inj hr).symm
  subst hrn
  clear hv hbl hbx hS1 hl0 hW0 hr hS hb hx hV hln hl hE
  go_enter func51,ntmps51
  go_upto_region 1 with fail
  rw[HW0.out]
  go_wp2_with (first | (go_at_call 30;refine (zaf _).mono ?_;rintro e' w2 ⟨rfl,rfl⟩) | fail)
  exact ⟨rfl,rfl,Turned.of_below HBL.out⟩
 ·have hlen:0<len:=by rw[hln];exact List.length_pos_iff.2 hnil
  obtain ⟨q,hq⟩:∃q,Sy.all E l n=q:=⟨_,rfl⟩
  clear hln
  have hne:l.isEmpty=false:=by simpa using hnil
  unfold Sy.begin Sy.need at hr
  rw[hne] at hr
  replace hr:Sy.bnd (Sy.all E l) (fun r=>Sy.ret (Sy.form Sy.beginB r)) n=some r:=hr
  unfold Sy.bnd at hr
  rw[hq] at hr
  match q,hq with
  | none,hq=>cases hr
  | some none,hq=>
   have hrn:r=none:=by
    exact (Option.some.inj hr).symm
   subst hrn
   have HC:=zh (zbn hE (S1 S w.heap.size) b n l _ W0 none hq hS1 (.inl hb) (hx.keep hbl) (hV.below hbl) hl0 hl)
   clear hv hbl hbx hS1 hl0 hW0 hr hS hb hx hV hq hE hne hl
   go_enter func51,ntmps51
   go_upto_region 1 with fail
   rw[HW0.out]
   go_wp2_with (first | (go_at_call 30;refine (zag _).mono ?_;rintro e' w2 ⟨⟨v2,rfl⟩,rfl⟩) | (go_at_call 88;refine HC.out.mono ?_;rintro e' w3 ⟨rfl,ht3⟩) | fail)
   exact ⟨rfl,rfl,(Turned.of_below HBL.out).next ht3⟩
  | some (some (ys,n2)),hq=>
   have hrn:r=some (Sy.form Sy.beginB ys,n2):=by
    exact (Option.some.inj hr).symm
   subst hrn
   have HC:=zh (zbn hE (S1 S w.heap.size) b n l _ W0 (some (ys,n2)) hq hS1 (.inl hb) (hx.keep hbl) (hV.below hbl) hl0 hl)
   have HYL:=zh (show ys.length≤999999 from by rw[Sy.all_len hq];omega)
   have HS1:=zh hS1
   have HB:=zh hb
   clear hv hbl hbx hS1 hl0 hW0 hr hS hb hx hV hq hE hne hl
   go_enter func51,ntmps51
   go_upto_region 1 with fail
   rw[HW0.out]
   go_wp2_with (first | (go_at_call 30;refine (zag _).mono ?_;rintro e' w2 ⟨⟨v2,rfl⟩,rfl⟩) | (go_at_call 88;refine HC.out.mono ?_;rintro e' w3 ⟨v3,rfl,hg3,ht3,hx3⟩) | (go_at_call 52;refine (zbD (S1 S w.heap.size) Sy.beginB (by decide) ys v3 _ w3 (fun c hc=>Nat.lt_of_lt_of_le (HS1.out c hc) ht3.size) hg3.rep (Nat.le_refl _) HYL.out).mono ?_;rintro e' w8 ⟨v8,rfl,hr8,hb8⟩;obtain ⟨k8,m8,d8,s8,o8,len8,cap8,rfl⟩:=zae hr8.unhide;have hx8:Box5 w8 w.heap.size 26 (.int .i64 0) (.int .i64 0) (.int .i64 0) (.string ⟨#[]⟩) (.slice none 0 0):=(hb8.block _ (Nat.lt_of_lt_of_le HBX.out.lt ht3.size)).trans ((ht3.block _ HBX.out.lt (by have:=HLT.out;omega)).trans HBX.out);obtain ⟨p0,p1,p2,p3,p4⟩:=hx8.cells;obtain ⟨z0,z1,z2,z3,z4⟩:=hx8.free;have pl:=hx8.lt;have HX8:=zh hx8;clear hx8) | fail)
   have HR5:=zh (HX8.out.set (.int .i64 k8) (.int .i64 m8) (.int .i64 d8) (.string s8) (.slice o8 len8 cap8))
   obtain ⟨r0,r1,r2,r3,r4⟩:=HR5.out.cells
   refine bodyPost_ret (v:=.agg #[.int .i64 k8,.int .i64 m8,.int .i64 d8,.string s8,.slice o8 len8 cap8]) (by simp[results,results51,go_sem,r0,r1,r2,r3,r4]) rfl ?_
   exact zb1 (Nat.le_refl _) HLT.out (((Turned.of_below HBL.out).next ht3).next (Turned.of_below hb8)) hr8 (XP.keepB hx3 hb8)
end
section
open Go Go.RowKit
theorem zcB {P:Program} {id:Nat} {Q:Exit→Act→World→Prop} {a0:Act} {w:World} {l:List Oper} (n:Nat) (I:Array Bool→Act→World→Prop) (hm:P.follows .mixedOrders=true) (hB:monoB l.toArray n a0.tmps.size=true)
  (h0:I (Array.replicate l.toArray.size false) a0 w.drew)
  (hops:∀i o,i<n→l.toArray[i]?=some o→∀(listed:Array Bool) (a:Act) (w1:World),listed.size=l.toArray.size→a.defers=a0.defers→a.tmps.size=a0.tmps.size→Rest l.toArray n a0 a→I listed a w1→listed.getD i false=false→(∀e∈o.after,Region.binds .any e=true→listed.getD e.on false=true) →
   o.wp P a w1 (fun a' w'=>∃v,a'=a.put o.dst v∧I (listed.setIfInBounds i true) a' w') Q)
  (hend:∀(listed:Array Bool) (a:Act) (w1:World),(∀i,i<n→listed.getD i false=true)→a.defers=a0.defers→a.tmps.size=a0.tmps.size→Rest l.toArray n a0 a→I listed a w1→wpList P l.toArray Q (l.drop n) a w1) :
  (Code.region id l.toArray true).wp P Q a0 w:=by
 simp only[monoB,monoG,Bool.and_eq_true,decide_eq_true_eq] at hB
 obtain ⟨⟨h1,h2,h3,h4,h5,h6⟩,h7⟩:=hB
 refine wp_region_any hm ?_
 have inv0:HeadInv .any l.toArray n (Array.replicate l.toArray.size false):=
  ⟨by simp,fun j oj _ hl=>(by rw[getD_replicate_false] at hl;cases hl),fun t _ ht=>getD_in (by simpa using ht) (getD_replicate_false _ _)⟩
 have hcount:((List.range n).filter fun i=>!(Array.replicate l.toArray.size false).getD i true).length=n:=by
  rw[List.filter_eq_self.2]
  ·simp
  ·intro i hi
   have:i<l.toArray.size:=by have:=List.mem_range.1 hi;omega
   have h':i<l.length:=by simpa using this
   simp[h']
 have:=zdQ (P:=P) (Q:=Q) (g:=l.toArray.size-n) (I:=fun listed a w=>listed.size=l.toArray.size∧a.defers=a0.defers∧a.tmps.size=a0.tmps.size∧Rest l.toArray n a0 a∧I listed a w) h1 h2 h3 h4 ?_ ?_ n _ a0 w.drew hcount inv0
  ⟨by simp,rfl,rfl,fun _ _=>rfl,h0⟩
 ·rwa[show n+(l.toArray.size-n)=l.toArray.size by omega] at this
 ·rintro listed a w1 i ⟨hls,hdf,hsz,hrest,hI⟩ hi hr
  obtain ⟨hun,o,ho,hdeps⟩:=mem_ready.1 hr
  unfold wpOp
  simp only[ho]
  have hg:Region.wanted o (yielded l.toArray a.tmps)=true:=zb2 (R:=fun _ _ _=>True) (w:=w1) h7 (fun _ h=>by cases h) hi ho (by rw[hsz];exact Nat.le_refl _) (fun _ _ _ _ _ _ _=>trivial)
  rw[if_pos hg]
  left
  refine Oper.wp_mono ?_ (hops i o hi ho listed a w1 hls hdf hsz hrest hI (by
   have hlt:i<listed.size:=by rw[hls];omega
   simpa[hlt] using hun) hdeps)
  rintro a' w' ⟨v,rfl,hI'⟩
  refine ⟨by simpa using hls,?_,?_,?_,hI'⟩
  ·cases o.dst<;>exact hdf
  ·cases hdst:o.dst with
   | none=>exact hsz
   | some d=>simpa[Act.put] using hsz
  ·intro t ht
   cases hdst:o.dst with
   | none=>exact hrest t ht
   | some d'=>
    have hd':d' < a.tmps.size:=by
     have g1:=List.all_eq_true.1 (List.all_eq_true.1 h5 i (List.mem_range.2 hi)) i (List.mem_range.2 hi)
     simp only[ho,hdst,Bool.and_eq_true,decide_eq_true_eq] at g1
     rw[hsz];exact g1.1
    rw[zaI hd',if_neg ?_]
    ·exact hrest t ht
    ·rintro rfl;exact ht i o hi ho hdst
 ·rintro listed a w1 ⟨hls,hdf,hsz,hrest,hI⟩ inv hall
  have hdl:(l.drop n).length=l.toArray.size-n:=by simp
  have g:=wpAny_of_seq (md:=.any) (Q':=Q) (l.drop n) n listed a w1 (fun j=>by simp[List.getElem?_drop]) (by rw[hdl,zbX h4 inv hall];exact h6)
   (hend listed a w1 (fun i hi=>by
    have:=hall i hi
    have hlt:i<listed.size:=by rw[hls];omega
    simpa[hlt] using this) hdf hsz hrest hI)
  rwa[hdl] at g
theorem zcI {P:Program} {id:Nat} {Q:Exit→Act→World→Prop} {a0:Act} {w:World} {l:List Oper} {b:Nat} (n:Nat) (ps:List Nat) (ns:Nat→Nat) (R:Nat→Value→World→Prop) (hm:P.follows .mixedOrders=true) (hB:monoB l.toArray n a0.tmps.size=true)
  (hnd:ps.Nodup) (hpn:∀p∈ps,p<n) (hchain:∀k p p',ps[k]?=some p→ps[k+1]?=some p'→∀o,l.toArray[p']?=some o→∃e∈o.after,Region.binds .any e=true∧e.on=p)
  (h0:XP w.drew b (ns 0)) (hR:∀i v A B,i<n→R i v A→Turned (fun c=>c=b) w.drew A→Turned (fun c=>c=b) A B→R i v B)
  (hops:∀i o,i<n→¬i∈ps→l.toArray[i]?=some o→o.guard=none→∀(a:Act) (w1:World),a.defers=a0.defers→a.tmps.size=a0.tmps.size→Turned (fun c=>c=b) w.drew w1→(∀j oj d,j<n→l.toArray[j]?=some oj→(∃e∈o.after,Region.binds .any e=true∧e.on=j)→oj.dst=some d→R j (a.tmps.getD d undef) w1)→Rest l.toArray n a0 a →
   o.wp P a w1 (fun a' w'=>∃v,a'=a.put o.dst v∧R i v w'∧Below w1.heap.size w1 w') Q)
  (hcall:∀k i o,ps[k]?=some i→l.toArray[i]?=some o→o.guard=none→∀(a:Act) (w1:World),a.defers=a0.defers→a.tmps.size=a0.tmps.size→Turned (fun c=>c=b) w.drew w1→XP w1 b (ns k)→(∀j oj d,j<n→l.toArray[j]?=some oj→(∃e∈o.after,Region.binds .any e=true∧e.on=j)→oj.dst=some d→R j (a.tmps.getD d undef) w1)→Rest l.toArray n a0 a →
   o.wp P a w1 (fun a' w'=>∃v,a'=a.put o.dst v∧R i v w'∧Turned (fun c=>c=b) w1 w'∧XP w' b (ns (k+1))) Q)
  (hend:∀a w1,a.defers=a0.defers→a.tmps.size=a0.tmps.size→Turned (fun c=>c=b) w.drew w1→XP w1 b (ns ps.length)→(∀i o d,i<n→l.toArray[i]?=some o→o.dst=some d→R i (a.tmps.getD d undef) w1)→Rest l.toArray n a0 a→wpList P l.toArray Q (l.drop n) a w1) :
  (Code.region id l.toArray true).wp P Q a0 w:=by
 have hB':=hB
 simp only[monoB,monoG,Bool.and_eq_true,decide_eq_true_eq] at hB'
 obtain ⟨⟨_,_,_,hn,hsl,_⟩,hgd⟩:=hB'
 refine zcB n (fun listed a W=>Turned (fun c=>c=b) w.drew W∧(∃k,k≤ps.length∧XP W b (ns k)∧∀j p,ps[j]?=some p→(listed.getD p false=true↔j<k))∧∀i o d,i<n→l.toArray[i]?=some o→listed.getD i false=true→o.dst=some d→R i (a.tmps.getD d undef) W) hm hB ⟨Turned.refl _ _,⟨0,Nat.zero_le _,h0,fun j p _=>by rw[getD_replicate_false];simp⟩,fun i o d _ _ h=>by rw[getD_replicate_false] at h;cases h⟩ ?_ ?_
 ·intro i o hi ho listed a w1 hls hdf hsz hrest ⟨hex,⟨k,hk,hxp,hpre⟩,hval⟩ hun hdeps
  have hlt:i<listed.size:=by rw[hls];omega
  have hset:(listed.setIfInBounds i true).getD i false=true:=by simp[hlt]
  have hdep:∀j oj d,j<n→l.toArray[j]?=some oj→(∃e∈o.after,Region.binds .any e=true∧e.on=j)→oj.dst=some d→R j (a.tmps.getD d undef) w1:=fun j oj d hj hoj ⟨e,he,hb,hon⟩ hd=>hval j oj d hj hoj (by have:=hdeps e he hb;rwa[hon] at this) hd
  have hvals:∀v w',R i v w'→Turned (fun c=>c=b) w1 w'→∀j oj d,j<n→l.toArray[j]?=some oj→(listed.setIfInBounds i true).getD j false=true→oj.dst=some d→R j ((Act.put a o.dst v).tmps.getD d undef) w':=by
   intro v w' hv hx j oj d hj hoj hl hd
   by_cases e:i=j
   ·subst e
    obtain rfl:oj=o:=Option.some.inj (hoj.symm.trans ho)
    have hd':=(zaS hsl hi hi ho ho hd hd).1
    rw[hd,zaI (by rw[hsz];exact hd'),if_pos rfl]
    exact hv
   ·rw[getD_set_ne false e] at hl
    have hold:=hval j oj d hj hoj hl hd
    have hsame:(a.put o.dst v).tmps.getD d undef=a.tmps.getD d undef:=by
     cases hdo:o.dst with
     | none=>rfl
     | some d'=>
      obtain ⟨hd',hne⟩:=zaS hsl hi hj ho hoj hdo hd
      rw[zaI (by rw[hsz];exact hd'),if_neg (hne.resolve_left e)]
    rw[hsame]
    exact hR j _ _ _ hj hold hex hx
  by_cases hip:i∈ps
  ·obtain ⟨j,hj⟩:=List.getElem?_of_mem hip
   have hkj:¬j<k:=fun h=>by
    have:=(hpre j i hj).2 h
    rw[hun] at this
    cases this
   have hjk:j=k:=by
    rcases Nat.lt_or_ge k j with h | h
    ·exfalso
     obtain ⟨j',rfl⟩:∃j',j=j'+1:=⟨j-1,by omega⟩
     have hjl:=(List.getElem?_eq_some_iff.1 hj).1
     have hp:ps[j']?=some ps[j']:=List.getElem?_eq_getElem (by omega)
     obtain ⟨e,he,hb,hon⟩:=hchain j' _ i hp hj o ho
     have h1:=hdeps e he hb
     rw[hon] at h1
     have:=(hpre j' _ hp).1 h1
     omega
    ·omega
   subst hjk
   refine Oper.wp_mono ?_ (hcall j i o hj ho (zaB hgd hi ho) a w1 hdf hsz hex hxp hdep hrest)
   rintro a' w' ⟨v,rfl,hv,hx,hxp'⟩
   refine ⟨v,rfl,hex.next hx,⟨j+1,(List.getElem?_eq_some_iff.1 hj).1,hxp',fun j2 p hp=>?_⟩,hvals v w' hv hx⟩
   by_cases e:i=p
   ·subst e
    have:j2=j:=(List.getElem?_inj (List.getElem?_eq_some_iff.1 hp).1 hnd).1 (hp.trans hj.symm)
    subst this
    rw[hset]
    simp
   ·rw[getD_set_ne false e,hpre j2 p hp]
    have:j2≠j:=fun h=>e (by subst h;rw[hj] at hp;exact Option.some.inj hp)
    omega
  ·refine Oper.wp_mono ?_ (hops i o hi hip ho (zaB hgd hi ho) a w1 hdf hsz hex hdep hrest)
   rintro a' w' ⟨v,rfl,hv,hx⟩
   refine ⟨v,rfl,hex.next (Turned.of_below hx),⟨k,hk,hxp.keepB hx,fun j p hp=>?_⟩,hvals v w' hv (Turned.of_below hx)⟩
   rw[getD_set_ne false (fun e=>hip (by subst e;exact List.mem_of_getElem? hp))]
   exact hpre j p hp
 ·intro listed a w1 hall hdf hsz hrest ⟨hex,⟨k,hk,hxp,hpre⟩,hval⟩
  have hkl:k=ps.length:=by
   rcases Nat.lt_or_ge k ps.length with h | h
   ·exfalso
    have hp:ps[k]?=some ps[k]:=List.getElem?_eq_getElem h
    have:=(hpre k _ hp).1 (hall _ (hpn _ (List.getElem_mem h)))
    omega
   ·omega
  subst hkl
  exact hend a w1 hdf hsz hex hxp (fun i o d hi ho hd=>hval i o d hi ho (hall i hi) hd) hrest
section
variable {P : Program} {o : Oper} {a : Act} {w : World} {Q : Exit → Act → World → Prop} {R : Nat → Value → World → Prop} {Ext : World → World → Prop} {i : Nat}
theorem za0 {v:Value} {w':World} (h:(execOp a.eval o).run P w=.ok (.value v) w') (hv:R i v w') (he:Ext w w'):o.wp P a w (fun a' w'=>∃v,a'=a.put o.dst v∧R i v w'∧Ext w w') Q:=by
 unfold Oper.wp
 rw[h]
 exact ⟨v,rfl,hv,he⟩
theorem zba {K:Act→World→Prop} {f:FuncId} {args:Array Operand} {ts:Array TypeId} {vals:Array Value} {R':Ending→World→Prop} (ho:o.op=.call { callee:=.value (.func f),args:=args,argTypes:=ts }) (hv:args.map a.eval=vals) (hf:∀args w,(callFunc f args).run P w=.ok (.enter f args) w)
  (hc:Calls P f vals w R') (hR:∀e w',R' e w'→(∃v,e=.returned v∧K (a.put o.dst v) w')∨∃c,e=.panicked c∧Q (.panic c) a w'):o.wp P a w K Q:=by
 have hef:a.eval (.func f)=.func (.func f) #[] #[]:=rfl
 have hrun:(execOp a.eval o).run P w=.ok (.enter f vals) w:=by
  simp[execOp,ho,resolve,Deferred.ofValue,invoke,hef,hf,hv]
 unfold Oper.wp
 rw[hrun]
 simp only[Oper.upon]
 refine hc.mono fun e w' h=>?_
 rcases hR e w' h with ⟨v,rfl,hv⟩ | ⟨c,rfl,hv⟩
 ·exact hv
 ·exact hv
end
end
section
open Go Go.RowKit
def BOk (F:List Dat→Sy.M Dat):Prop:=∀(S:Nat→Prop) (b n:Nat) (l:List Dat) (sl:Value) (w:World) (r:Option (Dat × Nat)),F l n=some r→(∀c,S c→c<w.heap.size)→S b→XP w b n→Env w→RepS (hide w S) w.heap.size l sl→l.length≤100000 →
 Calls prog 29 #[.pointer (some ⟨b,0,none⟩),sl] w (XRes S b r w)
def LaR (S:Nat→Prop) (fv pv sl:Value) (f y:Dat) (ok:Prop) (i:Nat) (v:Value) (W:World):Prop:=match i with
 | 0=>v=fv
 | 1=>v=pv
 | 2=>v=sl
 | 3=>ok∧RepD (hide W S) W.heap.size y v
 | 4=>ok∧RepS (hide W S) W.heap.size [f,y] v
 | 5=>ok∧RepD (hide W S) W.heap.size (Sy.form Sy.lambdaB [f,y]) v
 | _=>True
theorem zkU {S:Nat→Prop} {fv pv sl:Value} {f y:Dat} {ok:Prop} {b:Nat} (hb:S b):∀i v (A B:World),LaR S fv pv sl f y ok i v A→Turned (fun c=>c=b) A B→LaR S fv pv sl f y ok i v B:=by
 intro i v A B h ht
 have hs:Shown A S B S:=Shown.turned ht fun c _ h=>by subst h;exact hb
 match i,h with
 | 0,h | 1,h | 2,h=>exact h
 | 3,h=>exact ⟨h.1,h.2.shown hs ht.size⟩
 | 4,h=>exact ⟨h.1,h.2.shown hs ht.size⟩
 | 5,h=>exact ⟨h.1,h.2.shown hs ht.size⟩
 | _+6,_=>exact trivial
theorem zg3 {F:List Dat→Sy.M Dat} (hF:BOk F) (S:Nat→Prop) (b n:Nat) (f:Dat) (fv:Value) (l:List Dat) (sl:Value) (w:World) (r:Option (Dat × Nat)) (hr:Sy.need (Sy.formals f) (Sy.bnd (F l) fun y=>Sy.ret (Sy.form Sy.lambdaB [f,y])) n=some r) (hS:∀c,S c→c<w.heap.size) (hb:S b) (hx:XP w b n) (hV:Env w) (hfv:RepD (hide w S) w.heap.size f fv) (hsh:Dat.shaped f=true) (hal:Dat.all f≤100000) (hv:RepS (hide w S) w.heap.size l sl) (hl:l.length≤100000) :
  Calls prog 85 #[.pointer (some ⟨b,0,none⟩),fv,sl] w (XRes S b r w):=by
 obtain ⟨k,m,d,st,o,len,cap,rfl⟩:=zae hfv.unhide
 obtain ⟨W0,hW0⟩:∃W0,(w.alloc (.cells #[.int .i64 k,.int .i64 m,.int .i64 d,.string st,.slice o len cap] 26)).alloc (.cells #[.int .i64 0,.int .i64 0,.int .i64 0,.string ⟨#[]⟩,.slice none 0 0] 26)=W0:=⟨_,rfl⟩
 have hbx:Box5 W0 (w.heap.size+1) 26 (.int .i64 0) (.int .i64 0) (.int .i64 0) (.string ⟨#[]⟩) (.slice none 0 0):=by rw[←hW0];have:=Box5.new (w.alloc (.cells #[.int .i64 k,.int .i64 m,.int .i64 d,.string st,.slice o len cap] 26)) 26 (.int .i64 0) (.int .i64 0) (.int .i64 0) (.string ⟨#[]⟩) (.slice none 0 0);rwa[World.size_alloc] at this
 have hfx:Box5 W0 w.heap.size 26 (.int .i64 k) (.int .i64 m) (.int .i64 d) (.string st) (.slice o len cap):=by rw[←hW0];exact (Box5.new w _ _ _ _ _ _).alloc _
 have hbl:Below w.heap.size w W0:=by rw[←hW0];exact (Below.one w _).trans ((Below.one _ _).mono (by simp))
 have hbw:b<w.heap.size:=hS b hb
 have hS1:∀c,S1 S (w.heap.size+1) c→c<W0.heap.size:=fun c hc=>hc.elim (fun h=>Nat.lt_of_lt_of_le (hS c h) hbl.size) fun h=>by subst h;exact hbx.lt
 have hshow:Shown w S W0 (S1 S (w.heap.size+1)):=fun c o' u hc hu=>by
  have hcl:=zai hu
  exact ⟨fun h=>h.elim hc fun h=>by omega,(hbl.cell (p:=⟨c,o',none⟩) hcl).trans hu⟩
 have HC:=zh (zci (S1 S (w.heap.size+1)) f _ W0.heap.size W0 hS1 (hfv.shown hshow hbl.size) (Nat.le_refl _) hsh hal)
 have HBX:=zh hbx
 have HFX:=zh hfx
 have HBL:=zh hbl
 have HW0:=zh hW0
 have HLT:=zh hbw
 have HB:=zh hb
 have HS1:=zh hS1
 have HFV:=zh (hfv.shown hshow hbl.size)
 have HLV:=zh (hv.shown hshow hbl.size)
 have HX:=zh (hx.keep hbl)
 have HX0:=zh hx
 have HV:=zh hV
 have HL:=zh hl
 have HF:=zh hF
 have HR:=zh hr
 obtain ⟨q0,q1,q2,q3,q4⟩:=hfx.cells
 have ql:=hfx.lt
 obtain ⟨fo,hfo⟩:∃fo,Sy.formals f=fo:=⟨_,rfl⟩
 rw[hfo] at HC HR
 clear hbx hfx hbl hW0 hbw hb hS1 hfv hv hx hV hl hF hr hS hsh hal hshow hfo
 go_enter func85,ntmps85
 go_upto_region 1 with fail
 rw[HW0.out]
 cases fo
 ·have hrn:r=none:=(Option.some.inj HR.out).symm
  subst hrn
  go_wp2_with (first | (go_at_call 75;refine HC.out.mono ?_;rintro e' w1 ⟨rfl,hb1⟩) | (go_at_call 30;refine (zaf _).mono ?_;rintro e' w2 ⟨rfl,rfl⟩) | fail)
  exact ⟨rfl,rfl,Turned.of_below (HBL.out.trans (hb1.mono HBL.out.size))⟩
 ·go_upto_region 2 with (first | (go_at_call 75;refine HC.out.mono ?_;rintro e' w1 ⟨rfl,hb1⟩) | (go_at_call 30;refine (zag _).mono ?_;rintro e' w2 ⟨⟨v2,rfl⟩,rfl⟩) | fail)
  obtain ⟨q,hq⟩:∃q,F l n=q:=⟨_,rfl⟩
  match q,hq with
  | none,hq=>
   have h:=HR.out
   unfold Sy.need Sy.bnd at h
   rw[if_pos rfl,hq] at h
   cases h
  | some p,hq=>
  obtain ⟨y,n2,hy⟩:∃y n2,∀z,p=some z→z=(y,n2):=by
   match p with
   | none=>exact ⟨Dat.null,0,fun _ h=>by cases h⟩
   | some (y,n2)=>exact ⟨y,n2,fun z h=>(Option.some.inj h).symm⟩
  have hb0:Below w.heap.size w w2:=HBL.out.trans (hb1.mono HBL.out.size)
  have hFX2:Box5 w2 w.heap.size 26 (.int .i64 k) (.int .i64 m) (.int .i64 d) (.string st) (.slice o len cap):=(hb1.block _ HFX.out.lt).trans HFX.out
  have hd2:Below w2.heap.size w2 w2.drew:=(Below.refl w2.heap.size w2).drew
  have hxd:XP w2.drew b n:=(show XP W0 b n from HX.out).keepB hb1 |>.keepB hd2
  have HTB:=zh (show ∀w3,Turned (fun c=>c=b) w2.drew w3→Turned (fun c=>c=b) W0 w3 from fun w3 h=>((Turned.of_below hb1).next (Turned.of_below hd2)).next h)
  have HT0:=zh (show Turned (fun c=>c=b) w W0 from Turned.of_below HBL.out)
  have HSH:=zh (show ∀w3,Turned (fun c=>c=b) W0 w3→Shown W0 (S1 S (w.heap.size+1)) w3 (S1 S (w.heap.size+1)) from fun w3 h=>Shown.turned h fun c _ hc=>by subst hc;exact .inl HB.out)
  have HQ:=zh hq
  have HY:=zh hy
  have HFD:=zh (show ∀w3,Turned (fun c=>c=b) W0 w3→Box5 w3 w.heap.size 26 (.int .i64 k) (.int .i64 m) (.int .i64 d) (.string st) (.slice o len cap) from fun w3 h=>(h.block _ HFX.out.lt (by have:=HLT.out;omega)).trans HFX.out)
  clear hq hy q0 q1 q2 q3 q4 ql hFX2
  refine zcI (b:=b) 6 [3] (fun j=>if j=0 then n else n2) (LaR (S1 S (w.heap.size+1)) (.agg #[.int .i64 k,.int .i64 m,.int .i64 d,.string st,.slice o len cap]) (.pointer (some ⟨b,0,none⟩)) sl f y (p=some (y,n2))) (by kernel_rfl) (by show monoB _ 6 16=true;kernel_rfl) (by decide) (by decide) ?hch hxd (fun i v A B _ h _ ht=>zkU (.inl HB.out) i v A B h ht) ?hops ?hcall ?hend
  case hch=>
   intro j p1 p2 h1 h2
   rcases j with _ | j<;>simp at h2
  case hops=>
   intro i o8 hi hip ho hgd a w3 hdf hsz hex hdep hrest
   have ht3:=HTB.out w3 hex
   match i,hi,hip with
   | 0,_,_=>
    obtain rfl:_=o8:=Option.some.inj ho
    have h4:a.tmps.getD 4 undef=.pointer (some ⟨w.heap.size,0,none⟩):=hrest.at 4 (by kernel_rfl)
    have hfb:=HFD.out w3 ht3
    obtain ⟨q0,q1,q2,q3,q4⟩:=hfb.cells
    have ql:=hfb.lt
    exact za0 (v:=.agg #[.int .i64 k,.int .i64 m,.int .i64 d,.string st,.slice o len cap]) (w':=w3) (by go_simp) rfl (Below.refl _ _)
   | 1,_,_=>
    obtain rfl:_=o8:=Option.some.inj ho
    have h0:a.tmps.getD 0 undef=.pointer (some ⟨b,0,none⟩):=hrest.at 0 (by kernel_rfl)
    exact za0 (v:=.pointer (some ⟨b,0,none⟩)) (w':=w3) (by go_simp) rfl (Below.refl _ _)
   | 2,_,_=>
    obtain rfl:_=o8:=Option.some.inj ho
    have h2:a.tmps.getD 2 undef=sl:=hrest.at 2 (by kernel_rfl)
    exact za0 (v:=sl) (w':=w3) (by go_simp) rfl (Below.refl _ _)
   | 3,_,h=>exact absurd (by decide) h
   | 4,_,_=>
    obtain rfl:_=o8:=Option.some.inj ho
    have h10:a.tmps.getD 10 undef=.agg #[.int .i64 k,.int .i64 m,.int .i64 d,.string st,.slice o len cap]:=zaT hdep 0 10 (by kernel_rfl)
    obtain ⟨hok,h13⟩:p=some (y,n2)∧RepD (hide w3 (S1 S (w.heap.size+1))) w3.heap.size y (a.tmps.getD 13 undef):=zaT hdep 3 13 (by kernel_rfl)
    obtain ⟨k8,m8,d8,s8,o9,len8,cap8,h8⟩:=zae h13.unhide
    rw[h8] at h13
    exact za0 (zcH rfl h10 h8) ⟨hok,zbs (W:=w3) (n:=2) (cs:=[.int .i64 k,.int .i64 m,.int .i64 d,.string st,.slice o len cap,.int .i64 k8,.int .i64 m8,.int .i64 d8,.string s8,.slice o9 len8 cap8]) rfl (by omega) (fun c hc=>Nat.lt_of_lt_of_le (HS1.out c hc) ht3.size) ⟨_,_,_,_,_,_,rfl,HFV.out.shown (HSH.out w3 ht3) ht3.size,_,_,_,_,_,_,rfl,h13,rfl⟩⟩ (Below.one _ _)
   | 5,_,_=>
    obtain rfl:_=o8:=Option.some.inj ho
    obtain ⟨hok,h14⟩:p=some (y,n2)∧RepS (hide w3 (S1 S (w.heap.size+1))) w3.heap.size [f,y] (a.tmps.getD 14 undef):=zaT hdep 4 14 (by kernel_rfl)
    refine zba (vals:=#[.string Sy.lambdaB,a.tmps.getD 14 undef]) rfl (by simp only[List.map_toArray,List.map_cons,List.map_nil];rfl) (fun _ _=>rfl) (zbD (S1 S (w.heap.size+1)) Sy.lambdaB (by decide) [f,y] _ _ w3 (fun c hc=>Nat.lt_of_lt_of_le (HS1.out c hc) ht3.size) h14 (Nat.le_refl _) (by simp)) ?_
    rintro e w' ⟨v,rfl,hv1,hv2⟩
    exact .inl ⟨v,rfl,v,rfl,⟨hok,hv1⟩,hv2⟩
  case hcall=>
   intro j i o8 hj ho hgd a w3 hdf hsz hex hxp hdep hrest
   have ht3:=HTB.out w3 hex
   have hj0:j=0:=by
    rcases j with _ | j
    ·rfl
    ·simp at hj
   subst hj0
   obtain rfl:3=i:=Option.some.inj hj
   obtain rfl:_=o8:=Option.some.inj ho
   have h11:a.tmps.getD 11 undef=.pointer (some ⟨b,0,none⟩):=zaT hdep 1 11 (by kernel_rfl)
   have h12:a.tmps.getD 12 undef=sl:=zaT hdep 2 12 (by kernel_rfl)
   refine zba (vals:=#[.pointer (some ⟨b,0,none⟩),sl]) rfl (by simp only[List.map_toArray,List.map_cons,List.map_nil];rw[←h11,←h12];rfl) (fun _ _=>rfl) (HF.out (S1 S (w.heap.size+1)) b n l sl w3 p HQ.out (fun c hc=>Nat.lt_of_lt_of_le (HS1.out c hc) ht3.size) (.inl HB.out) hxp (Env.turned HV.out HX0.out (HT0.out.next ht3)) (HLV.out.shown (HSH.out w3 ht3) ht3.size) HL.out) ?_
   intro e w' he
   match p,HY.out,HR,HQ with
   | none,_,HR,HQ=>
    obtain ⟨rfl,ht4⟩:=he
    refine .inr ⟨_,rfl,?_⟩
    have hrn:r=none:=by
     have h:=HR.out
     unfold Sy.need Sy.bnd at h
     rw[if_pos rfl,HQ.out] at h
     exact (Option.some.inj h).symm
    subst hrn
    exact ⟨hdf,rfl,(HT0.out.next ht3).next ht4⟩
   | some z,hy,_,_=>
    obtain rfl:=hy z rfl
    obtain ⟨v,rfl,hv1,hv2,hv3⟩:=he
    exact .inl ⟨v,rfl,v,rfl,⟨rfl,hv1⟩,hv2,hv3⟩
  case hend=>
   intro a w3 hdf hsz hex hxp hval hrest
   have ht3:=HTB.out w3 hex
   obtain ⟨hok,h15⟩:p=some (y,n2)∧RepD (hide w3 (S1 S (w.heap.size+1))) w3.heap.size (Sy.form Sy.lambdaB [f,y]) (a.tmps.getD 15 undef):=hval 5 _ 15 (by omega) rfl rfl
   have hrn:r=some (Sy.form Sy.lambdaB [f,y],n2):=by
    have h:=HR.out
    unfold Sy.need Sy.bnd at h
    rw[if_pos rfl,HQ.out,hok] at h
    exact (Option.some.inj h).symm
   subst hrn
   obtain ⟨f8,ha,hf8⟩:=zaq [false,false,false,false,false,false,false,false,false,false,true,true,true,true,true,true] (by kernel_rfl) hdf hsz hrest
   rw[←hf8] at h15
   subst ha
   obtain ⟨k8,m8,d8,s8,o9,len8,cap8,h8⟩:=zae h15.unhide
   rw[h8] at h15
   have hx8:Box5 w3 (w.heap.size+1) 26 (.int .i64 0) (.int .i64 0) (.int .i64 0) (.string ⟨#[]⟩) (.slice none 0 0):=(ht3.block _ HBX.out.lt (by have:=HLT.out;omega)).trans HBX.out
   obtain ⟨p0,p1,p2,p3,p4⟩:=hx8.cells
   obtain ⟨z0,z1,z2,z3,z4⟩:=hx8.free
   have pl:=hx8.lt
   have HX8:=zh hx8
   have H15:=zh h15
   have HXP:=zh (show XP w3 b n2 from hxp)
   have HT3:=zh ht3
   clear hval hrest hf8 hex hdf hsz h15 hx8 hxp ht3
   simp only[spellH,List.drop_succ_cons,List.drop_zero,h8]
   go_wp2_with fail
   have HR5:=zh (HX8.out.set (.int .i64 k8) (.int .i64 m8) (.int .i64 d8) (.string s8) (.slice o9 len8 cap8))
   obtain ⟨r0,r1,r2,r3,r4⟩:=HR5.out.cells
   refine bodyPost_ret (v:=.agg #[.int .i64 k8,.int .i64 m8,.int .i64 d8,.string s8,.slice o9 len8 cap8]) (by simp[results,results85,go_sem,r0,r1,r2,r3,r4]) rfl ?_
   exact zb1 (Nat.le_succ _) HLT.out (HT0.out.next HT3.out) H15.out HXP.out
end
section
open Go Go.RowKit
def OvR (S:Nat→Prop) (vv bv av pv:Value) (x y z:Dat) (ok:Prop) (i:Nat) (v:Value) (W:World):Prop:=match i with
 | 0=>v=vv
 | 1=>RepS (hide W S) W.heap.size [x] v
 | 2=>RepD (hide W S) W.heap.size (Dat.list [x]) v
 | 3=>v=bv
 | 4=>RepS (hide W S) W.heap.size [Dat.list [x],y] v
 | 5=>RepD (hide W S) W.heap.size (Sy.form Sy.lambdaB [Dat.list [x],y]) v
 | 6=>v=pv
 | 7=>v=av
 | 8=>ok∧RepD (hide W S) W.heap.size z v
 | 9=>ok∧RepS (hide W S) W.heap.size [Sy.form Sy.lambdaB [Dat.list [x],y],z] v
 | 10=>ok∧RepD (hide W S) W.heap.size (Dat.list [Sy.form Sy.lambdaB [Dat.list [x],y],z]) v
 | _=>True
theorem zkO {S:Nat→Prop} {vv bv av pv:Value} {x y z:Dat} {ok:Prop} {b:Nat} (hb:S b):∀i v (A B:World),OvR S vv bv av pv x y z ok i v A→Turned (fun c=>c=b) A B→OvR S vv bv av pv x y z ok i v B:=by
 intro i v A B h ht
 have hs:Shown A S B S:=Shown.turned ht fun c _ h=>by subst h;exact hb
 match i,h with
 | 0,h | 3,h | 6,h | 7,h=>exact h
 | 1,h=>exact RepS.shown h hs ht.size
 | 4,h=>exact RepS.shown h hs ht.size
 | 2,h=>exact RepD.shown h hs ht.size
 | 5,h=>exact RepD.shown h hs ht.size
 | 8,h=>exact ⟨h.1,h.2.shown hs ht.size⟩
 | 9,h=>exact ⟨h.1,h.2.shown hs ht.size⟩
 | 10,h=>exact ⟨h.1,h.2.shown hs ht.size⟩
 | _+11,_=>exact trivial
theorem zb6 {E:Dat→Sy.M Dat} (hE:EOk E) (S:Nat→Prop) (b n:Nat) (x y a:Dat) (xv yv av:Value) (w:World) (r:Option (Dat × Nat)) (hr:Sy.over E x y a n=some r) (hS:∀c,S c→c<w.heap.size) (hb:S b) (hx:XP w b n) (hV:Env w) (hxv:RepD (hide w S) w.heap.size x xv) (hyv:RepD (hide w S) w.heap.size y yv) (hav:RepD (hide w S) w.heap.size a av) :
  Calls prog 144 #[.pointer (some ⟨b,0,none⟩),xv,yv,av] w (XRes S b r w):=by
 obtain ⟨k1,m1,d1,s1,o1,len1,cap1,rfl⟩:=zae hxv.unhide
 obtain ⟨k2,m2,d2,s2,o2,len2,cap2,rfl⟩:=zae hyv.unhide
 obtain ⟨k3,m3,d3,s3,o3,len3,cap3,rfl⟩:=zae hav.unhide
 obtain ⟨V1,hV1⟩:∃V1,w.alloc (.cells #[.int .i64 k1,.int .i64 m1,.int .i64 d1,.string s1,.slice o1 len1 cap1] 26)=V1:=⟨_,rfl⟩
 obtain ⟨V2,hV2⟩:∃V2,V1.alloc (.cells #[.int .i64 k2,.int .i64 m2,.int .i64 d2,.string s2,.slice o2 len2 cap2] 26)=V2:=⟨_,rfl⟩
 obtain ⟨V3,hV3⟩:∃V3,V2.alloc (.cells #[.int .i64 k3,.int .i64 m3,.int .i64 d3,.string s3,.slice o3 len3 cap3] 26)=V3:=⟨_,rfl⟩
 obtain ⟨W0,hW0⟩:∃W0,V3.alloc (.cells #[.int .i64 0,.int .i64 0,.int .i64 0,.string ⟨#[]⟩,.slice none 0 0] 26)=W0:=⟨_,rfl⟩
 have z1:V1.heap.size=w.heap.size+1:=by rw[←hV1];simp
 have z2:V2.heap.size=w.heap.size+2:=by rw[←hV2];simp[z1]
 have z3:V3.heap.size=w.heap.size+3:=by rw[←hV3];simp[z2]
 have c1:Below w.heap.size w V1:=by rw[←hV1];exact Below.one _ _
 have c2:Below V1.heap.size V1 V2:=by rw[←hV2];exact Below.one _ _
 have c3:Below V2.heap.size V2 V3:=by rw[←hV3];exact Below.one _ _
 have c4:Below V3.heap.size V3 W0:=by rw[←hW0];exact Below.one _ _
 have hfx1:Box5 W0 w.heap.size 26 (.int .i64 k1) (.int .i64 m1) (.int .i64 d1) (.string s1) (.slice o1 len1 cap1):=(c4.block _ (by omega)).trans ((c3.block _ (by omega)).trans ((c2.block _ (by omega)).trans (by rw[←hV1];exact Box5.new w _ _ _ _ _ _)))
 have hfx2:Box5 W0 (w.heap.size+1) 26 (.int .i64 k2) (.int .i64 m2) (.int .i64 d2) (.string s2) (.slice o2 len2 cap2):=(c4.block _ (by omega)).trans ((c3.block _ (by omega)).trans (by rw[←hV2,←z1];exact Box5.new V1 _ _ _ _ _ _))
 have hfx3:Box5 W0 (w.heap.size+2) 26 (.int .i64 k3) (.int .i64 m3) (.int .i64 d3) (.string s3) (.slice o3 len3 cap3):=(c4.block _ (by omega)).trans (by rw[←hV3,←z2];exact Box5.new V2 _ _ _ _ _ _)
 have hbx:Box5 W0 (w.heap.size+3) 26 (.int .i64 0) (.int .i64 0) (.int .i64 0) (.string ⟨#[]⟩) (.slice none 0 0):=by rw[←hW0,←z3];exact Box5.new V3 _ _ _ _ _ _
 have hbl:Below w.heap.size w W0:=c1.trans ((c2.mono (by omega)).trans ((c3.mono (by omega)).trans (c4.mono (by omega))))
 have hW:(((w.alloc (.cells #[.int .i64 k1,.int .i64 m1,.int .i64 d1,.string s1,.slice o1 len1 cap1] 26)).alloc (.cells #[.int .i64 k2,.int .i64 m2,.int .i64 d2,.string s2,.slice o2 len2 cap2] 26)).alloc (.cells #[.int .i64 k3,.int .i64 m3,.int .i64 d3,.string s3,.slice o3 len3 cap3] 26)).alloc (.cells #[.int .i64 0,.int .i64 0,.int .i64 0,.string ⟨#[]⟩,.slice none 0 0] 26)=W0:=by rw[hV1,hV2,hV3,hW0]
 clear hV1 hV2 hV3 hW0 c1 c2 c3 c4 z1 z2 z3
 clear V1 V2 V3
 have hbw:b<w.heap.size:=hS b hb
 have hS1:∀c,S1 S (w.heap.size+3) c→c<W0.heap.size:=fun c hc=>hc.elim (fun h=>Nat.lt_of_lt_of_le (hS c h) hbl.size) fun h=>by subst h;exact hbx.lt
 have hshow:Shown w S W0 (S1 S (w.heap.size+3)):=fun c o' u hc hu=>by
  have hcl:=zai hu
  exact ⟨fun h=>h.elim hc fun h=>by omega,(hbl.cell (p:=⟨c,o',none⟩) hcl).trans hu⟩
 have HBX:=zh hbx
 have HF1:=zh hfx1
 have HF2:=zh hfx2
 have HF3:=zh hfx3
 have HBL:=zh hbl
 have HW0:=zh hW
 have HLT:=zh hbw
 have HB:=zh hb
 have HS1:=zh hS1
 have HXV:=zh (hxv.shown hshow hbl.size)
 have HYV:=zh (hyv.shown hshow hbl.size)
 have HAV:=zh (hav.shown hshow hbl.size)
 have HX:=zh (show XP W0 b n from hx.keep hbl)
 have HX0:=zh hx
 have HV:=zh hV
 have HE:=zh hE
 have HR:=zh hr
 clear hbx hfx1 hfx2 hfx3 hbl hW hbw hb hS1 hxv hyv hav hx hV hE hr hS hshow
 go_enter func144,ntmps144
 go_upto_region 1 with fail
 rw[HW0.out]
 obtain ⟨q,hq⟩:∃q,E a n=q:=⟨_,rfl⟩
 match q,hq with
 | none,hq=>
  have h:=HR.out
  unfold Sy.over Sy.bnd at h
  rw[hq] at h
  cases h
 | some p,hq=>
  obtain ⟨z,n2,hy⟩:∃z n2,∀u,p=some u→u=(z,n2):=by
   match p with
   | none=>exact ⟨Dat.null,0,fun _ h=>by cases h⟩
   | some (z,n2)=>exact ⟨z,n2,fun u h=>(Option.some.inj h).symm⟩
  have hd2:Below W0.heap.size W0 W0.drew:=(Below.refl W0.heap.size W0).drew
  have hxd:XP W0.drew b n:=HX.out.keepB hd2
  have HTB:=zh (show ∀w3,Turned (fun c=>c=b) W0.drew w3→Turned (fun c=>c=b) W0 w3 from fun w3 h=>(Turned.of_below hd2).next h)
  have HT0:=zh (show Turned (fun c=>c=b) w W0 from Turned.of_below HBL.out)
  have HSH:=zh (show ∀w3,Turned (fun c=>c=b) W0 w3→Shown W0 (S1 S (w.heap.size+3)) w3 (S1 S (w.heap.size+3)) from fun w3 h=>Shown.turned h fun c _ hc=>by subst hc;exact .inl HB.out)
  have HQ:=zh hq
  have HY:=zh hy
  have HD1:=zh (show ∀w3,Turned (fun c=>c=b) W0 w3→Box5 w3 (w.heap.size) 26 (.int .i64 k1) (.int .i64 m1) (.int .i64 d1) (.string s1) (.slice o1 len1 cap1) from fun w3 h=>(h.block _ HF1.out.lt (by have:=HLT.out;omega)).trans HF1.out)
  have HD2:=zh (show ∀w3,Turned (fun c=>c=b) W0 w3→Box5 w3 (w.heap.size+1) 26 (.int .i64 k2) (.int .i64 m2) (.int .i64 d2) (.string s2) (.slice o2 len2 cap2) from fun w3 h=>(h.block _ HF2.out.lt (by have:=HLT.out;omega)).trans HF2.out)
  have HD3:=zh (show ∀w3,Turned (fun c=>c=b) W0 w3→Box5 w3 (w.heap.size+2) 26 (.int .i64 k3) (.int .i64 m3) (.int .i64 d3) (.string s3) (.slice o3 len3 cap3) from fun w3 h=>(h.block _ HF3.out.lt (by have:=HLT.out;omega)).trans HF3.out)
  clear hq hy
  refine zcI (b:=b) 11 [8] (fun j=>if j=0 then n else n2) (OvR (S1 S (w.heap.size+3)) (.agg #[.int .i64 k1,.int .i64 m1,.int .i64 d1,.string s1,.slice o1 len1 cap1]) (.agg #[.int .i64 k2,.int .i64 m2,.int .i64 d2,.string s2,.slice o2 len2 cap2]) (.agg #[.int .i64 k3,.int .i64 m3,.int .i64 d3,.string s3,.slice o3 len3 cap3]) (.pointer (some ⟨b,0,none⟩)) x y z (p=some (z,n2))) (by kernel_rfl) (by show monoB _ 11 20=true;kernel_rfl) (by decide) (by decide) ?hch hxd (fun i v A B _ h _ ht=>zkO (.inl HB.out) i v A B h ht) ?hops ?hcall ?hend
  case hch=>
   intro j p1 p2 h1 h2
   rcases j with _ | j<;>simp at h2
  case hops=>
   intro i o8 hi hip ho hgd a8 w3 hdf hsz hex hdep hrest
   have ht3:=HTB.out w3 hex
   match i,hi,hip with
   | 0,_,_=>
     obtain rfl:_=o8:=Option.some.inj ho
     have h5:a8.tmps.getD 5 undef=.pointer (some ⟨w.heap.size,0,none⟩):=hrest.at 5 (by kernel_rfl)
     have hfb:=HD1.out w3 ht3
     obtain ⟨q0,q1,q2,q3,q4⟩:=hfb.cells
     have ql:=hfb.lt
     exact za0 (v:=.agg #[.int .i64 k1,.int .i64 m1,.int .i64 d1,.string s1,.slice o1 len1 cap1]) (w':=w3) (by go_simp) rfl (Below.refl _ _)
   | 1,_,_=>
     obtain rfl:_=o8:=Option.some.inj ho
     have h9:a8.tmps.getD 9 undef=.agg #[.int .i64 k1,.int .i64 m1,.int .i64 d1,.string s1,.slice o1 len1 cap1]:=zaT hdep 0 9 (by kernel_rfl)
     exact za0 (zei rfl h9) (zaA (fun c hc=>Nat.lt_of_lt_of_le (HS1.out c hc) ht3.size) (HXV.out.shown (HSH.out w3 ht3) ht3.size)) (Below.one _ _)
   | 2,_,_=>
     obtain rfl:_=o8:=Option.some.inj ho
     have h10:RepS (hide w3 (S1 S (w.heap.size+3))) w3.heap.size [x] (a8.tmps.getD 10 undef):=zaT hdep 1 10 (by kernel_rfl)
     refine zba (vals:=#[a8.tmps.getD 10 undef]) rfl (by simp only[List.map_toArray,List.map_cons,List.map_nil];rfl) (fun _ _=>rfl) (zaR (S1 S (w.heap.size+3)) [x] _ _ w3 (fun c hc=>Nat.lt_of_lt_of_le (HS1.out c hc) ht3.size) h10 (Nat.le_refl _)) ?_
     rintro e w' ⟨v,rfl,hv1,hv2⟩
     exact .inl ⟨v,rfl,v,rfl,hv1,hv2⟩
   | 3,_,_=>
     obtain rfl:_=o8:=Option.some.inj ho
     have h6:a8.tmps.getD 6 undef=.pointer (some ⟨w.heap.size+1,0,none⟩):=hrest.at 6 (by kernel_rfl)
     have hfb:=HD2.out w3 ht3
     obtain ⟨q0,q1,q2,q3,q4⟩:=hfb.cells
     have ql:=hfb.lt
     exact za0 (v:=.agg #[.int .i64 k2,.int .i64 m2,.int .i64 d2,.string s2,.slice o2 len2 cap2]) (w':=w3) (by go_simp) rfl (Below.refl _ _)
   | 4,_,_=>
     obtain rfl:_=o8:=Option.some.inj ho
     have h12:a8.tmps.getD 12 undef=.agg #[.int .i64 k2,.int .i64 m2,.int .i64 d2,.string s2,.slice o2 len2 cap2]:=zaT hdep 3 12 (by kernel_rfl)
     have h11:RepD (hide w3 (S1 S (w.heap.size+3))) w3.heap.size (Dat.list [x]) (a8.tmps.getD 11 undef):=zaT hdep 2 11 (by kernel_rfl)
     obtain ⟨k8,m8,d8,s8,o8,len8,cap8,e8⟩:=zae h11.unhide
     rw[e8] at h11
     exact za0 (zcH rfl e8 h12) (zbs (W:=w3) (n:=2) (cs:=[.int .i64 k8,.int .i64 m8,.int .i64 d8,.string s8,.slice o8 len8 cap8,.int .i64 k2,.int .i64 m2,.int .i64 d2,.string s2,.slice o2 len2 cap2]) rfl (by omega) (fun c hc=>Nat.lt_of_lt_of_le (HS1.out c hc) ht3.size) ⟨_,_,_,_,_,_,rfl,h11,_,_,_,_,_,_,rfl,HYV.out.shown (HSH.out w3 ht3) ht3.size,rfl⟩) (Below.one _ _)
   | 5,_,_=>
     obtain rfl:_=o8:=Option.some.inj ho
     have h13:RepS (hide w3 (S1 S (w.heap.size+3))) w3.heap.size [Dat.list [x],y] (a8.tmps.getD 13 undef):=zaT hdep 4 13 (by kernel_rfl)
     refine zba (vals:=#[.string Sy.lambdaB,a8.tmps.getD 13 undef]) rfl (by simp only[List.map_toArray,List.map_cons,List.map_nil];rfl) (fun _ _=>rfl) (zbD (S1 S (w.heap.size+3)) Sy.lambdaB (by decide) [Dat.list [x],y] _ _ w3 (fun c hc=>Nat.lt_of_lt_of_le (HS1.out c hc) ht3.size) h13 (Nat.le_refl _) (by simp)) ?_
     rintro e w' ⟨v,rfl,hv1,hv2⟩
     exact .inl ⟨v,rfl,v,rfl,hv1,hv2⟩
   | 6,_,_=>
     obtain rfl:_=o8:=Option.some.inj ho
     have h0:a8.tmps.getD 0 undef=.pointer (some ⟨b,0,none⟩):=hrest.at 0 (by kernel_rfl)
     exact za0 (v:=.pointer (some ⟨b,0,none⟩)) (w':=w3) (by go_simp) rfl (Below.refl _ _)
   | 7,_,_=>
     obtain rfl:_=o8:=Option.some.inj ho
     have h7:a8.tmps.getD 7 undef=.pointer (some ⟨w.heap.size+2,0,none⟩):=hrest.at 7 (by kernel_rfl)
     have hfb:=HD3.out w3 ht3
     obtain ⟨q0,q1,q2,q3,q4⟩:=hfb.cells
     have ql:=hfb.lt
     exact za0 (v:=.agg #[.int .i64 k3,.int .i64 m3,.int .i64 d3,.string s3,.slice o3 len3 cap3]) (w':=w3) (by go_simp) rfl (Below.refl _ _)
   | 8,_,h=>exact absurd (by decide) h
   | 9,_,_=>
     obtain rfl:_=o8:=Option.some.inj ho
     have h14:RepD (hide w3 (S1 S (w.heap.size+3))) w3.heap.size (Sy.form Sy.lambdaB [Dat.list [x],y]) (a8.tmps.getD 14 undef):=zaT hdep 5 14 (by kernel_rfl)
     obtain ⟨hok,h17⟩:p=some (z,n2)∧RepD (hide w3 (S1 S (w.heap.size+3))) w3.heap.size z (a8.tmps.getD 17 undef):=zaT hdep 8 17 (by kernel_rfl)
     obtain ⟨k8,m8,d8,s8,u8,len8,cap8,e8⟩:=zae h14.unhide
     rw[e8] at h14
     obtain ⟨k9,m9,d9,s9,o9,len9,cap9,e9⟩:=zae h17.unhide
     rw[e9] at h17
     exact za0 (zcH rfl e8 e9) ⟨hok,zbs (W:=w3) (n:=2) (cs:=[.int .i64 k8,.int .i64 m8,.int .i64 d8,.string s8,.slice u8 len8 cap8,.int .i64 k9,.int .i64 m9,.int .i64 d9,.string s9,.slice o9 len9 cap9]) rfl (by omega) (fun c hc=>Nat.lt_of_lt_of_le (HS1.out c hc) ht3.size) ⟨_,_,_,_,_,_,rfl,h14,_,_,_,_,_,_,rfl,h17,rfl⟩⟩ (Below.one _ _)
   | 10,_,_=>
     obtain rfl:_=o8:=Option.some.inj ho
     obtain ⟨hok,h18⟩:p=some (z,n2)∧RepS (hide w3 (S1 S (w.heap.size+3))) w3.heap.size [Sy.form Sy.lambdaB [Dat.list [x],y],z] (a8.tmps.getD 18 undef):=zaT hdep 9 18 (by kernel_rfl)
     refine zba (vals:=#[a8.tmps.getD 18 undef]) rfl (by simp only[List.map_toArray,List.map_cons,List.map_nil];rfl) (fun _ _=>rfl) (zaR (S1 S (w.heap.size+3)) [Sy.form Sy.lambdaB [Dat.list [x],y],z] _ _ w3 (fun c hc=>Nat.lt_of_lt_of_le (HS1.out c hc) ht3.size) h18 (Nat.le_refl _)) ?_
     rintro e w' ⟨v,rfl,hv1,hv2⟩
     exact .inl ⟨v,rfl,v,rfl,⟨hok,hv1⟩,hv2⟩
  case hcall=>
   intro j i o8 hj ho hgd a8 w3 hdf hsz hex hxp hdep hrest
   have ht3:=HTB.out w3 hex
   have hj0:j=0:=by
    rcases j with _ | j
    ·rfl
    ·simp at hj
   subst hj0
   obtain rfl:8=i:=Option.some.inj hj
   obtain rfl:_=o8:=Option.some.inj ho
   have h15:a8.tmps.getD 15 undef=.pointer (some ⟨b,0,none⟩):=zaT hdep 6 15 (by kernel_rfl)
   have h16:a8.tmps.getD 16 undef=.agg #[.int .i64 k3,.int .i64 m3,.int .i64 d3,.string s3,.slice o3 len3 cap3]:=zaT hdep 7 16 (by kernel_rfl)
   refine zba (vals:=#[.pointer (some ⟨b,0,none⟩),.agg #[.int .i64 k3,.int .i64 m3,.int .i64 d3,.string s3,.slice o3 len3 cap3]]) rfl (by simp only[List.map_toArray,List.map_cons,List.map_nil];rw[←h15,←h16];rfl) (fun _ _=>rfl) (HE.out (S1 S (w.heap.size+3)) b n a _ w3 p HQ.out (fun c hc=>Nat.lt_of_lt_of_le (HS1.out c hc) ht3.size) (.inl HB.out) hxp (Env.turned HV.out HX0.out (HT0.out.next ht3)) (HAV.out.shown (HSH.out w3 ht3) ht3.size)) ?_
   intro e w' he
   match p,HY.out,HR,HQ with
   | none,_,HR,HQ=>
    obtain ⟨rfl,ht4⟩:=he
    refine .inr ⟨_,rfl,?_⟩
    have hrn:r=none:=by
     have h:=HR.out
     unfold Sy.over Sy.bnd at h
     rw[HQ.out] at h
     exact (Option.some.inj h).symm
    subst hrn
    exact ⟨hdf,rfl,(HT0.out.next ht3).next ht4⟩
   | some u,hy,_,_=>
    obtain rfl:=hy u rfl
    obtain ⟨v,rfl,hv1,hv2,hv3⟩:=he
    exact .inl ⟨v,rfl,v,rfl,⟨rfl,hv1⟩,hv2,hv3⟩
  case hend=>
   intro a8 w3 hdf hsz hex hxp hval hrest
   have ht3:=HTB.out w3 hex
   obtain ⟨hok,h19⟩:p=some (z,n2)∧RepD (hide w3 (S1 S (w.heap.size+3))) w3.heap.size (Dat.list [Sy.form Sy.lambdaB [Dat.list [x],y],z]) (a8.tmps.getD 19 undef):=hval 10 _ 19 (by omega) rfl rfl
   have hrn:r=some (Dat.list [Sy.form Sy.lambdaB [Dat.list [x],y],z],n2):=by
    have h:=HR.out
    unfold Sy.over Sy.bnd at h
    rw[HQ.out,hok] at h
    exact (Option.some.inj h).symm
   subst hrn
   obtain ⟨f8,ha,hf8⟩:=zaq [false,false,false,false,false,false,false,false,false,true,true,true,true,true,true,true,true,true,true,true] (by kernel_rfl) hdf hsz hrest
   rw[←hf8] at h19
   subst ha
   obtain ⟨k8,m8,d8,s8,o9,len8,cap8,h8⟩:=zae h19.unhide
   rw[h8] at h19
   have hx8:Box5 w3 (w.heap.size+3) 26 (.int .i64 0) (.int .i64 0) (.int .i64 0) (.string ⟨#[]⟩) (.slice none 0 0):=(ht3.block _ HBX.out.lt (by have:=HLT.out;omega)).trans HBX.out
   obtain ⟨p0,p1,p2,p3,p4⟩:=hx8.cells
   obtain ⟨z0,z1,z2,z3,z4⟩:=hx8.free
   have pl:=hx8.lt
   have HX8:=zh hx8
   have H19:=zh h19
   have HXP:=zh (show XP w3 b n2 from hxp)
   have HT3:=zh ht3
   clear hval hrest hf8 hex hdf hsz h19 hx8 hxp ht3
   simp only[spellH,List.drop_succ_cons,List.drop_zero,h8]
   go_wp2_with fail
   have HR5:=zh (HX8.out.set (.int .i64 k8) (.int .i64 m8) (.int .i64 d8) (.string s8) (.slice o9 len8 cap8))
   obtain ⟨r0,r1,r2,r3,r4⟩:=HR5.out.cells
   refine bodyPost_ret (v:=.agg #[.int .i64 k8,.int .i64 m8,.int .i64 d8,.string s8,.slice o9 len8 cap8]) (by simp[results,results144,go_sem,r0,r1,r2,r3,r4]) rfl ?_
   exact zb1 (by omega) HLT.out (HT0.out.next HT3.out) H19.out HXP.out
end
section
open Go Go.RowKit
namespace Sy
theorem zcu:∀l:List Dat,split (Dat.list l)=(l,Dat.null)
 | []=>by rw[show Dat.list []=Dat.null from rfl,Dat.null,split_other (by decide)]
 | x::l=>by
  rw[show Dat.list (x::l)=Dat.pair x (Dat.list l) from rfl,Dat.pair,split_pair rfl,zcu l]
theorem zc3:∀{l m:List Dat},l.length=m.length→bindsL (pairsL l m)=some (l,m)
 | [],[],_=>rfl
 | [],_::_,h=>by simp at h
 | _::_,[],h=>by simp at h
 | a::l,c::m,h=>by
  have ih:=zc3 (l:=l) (m:=m) (by simpa using h)
  rw[show pairsL (a::l) (c::m)=Dat.list [a,c]::pairsL l m from rfl]
  simp only[bindsL,zcu]
  rw[if_pos (by rfl),ih]
  rfl
theorem zey {l m:List Dat} (h:l.length=m.length):binds (pairs l m)=some (l,m):=by
 unfold binds pairs
 rw[zcu,if_pos (by rfl)]
 exact zc3 h
theorem bindsL_len:∀{l ns vs:List Dat},bindsL l=some (ns,vs)→ns.length=l.length∧vs.length=l.length
 | [],ns,vs,h=>by
  simp only[bindsL,Option.some.injEq,Prod.mk.injEq] at h
  obtain ⟨rfl,rfl⟩:=h
  exact ⟨rfl,rfl⟩
 | x::l,ns,vs,h=>by
  simp only[bindsL] at h
  split at h
  ·split at h
   ·obtain ⟨p,hp,he⟩:=Option.map_eq_some_iff.1 h
    simp only[Prod.mk.injEq] at he
    obtain ⟨rfl,rfl⟩:=he
    have ih:=bindsL_len (ns:=p.1) (vs:=p.2) hp
    simp[ih.1,ih.2]
   ·cases h
  ·cases h
end Sy
end
section
open Go Go.RowKit
theorem zd6 {S:Nat→Prop} {o:Oper} {a:Act} {w:World} {Q:Exit→Act→World→Prop} (s x:Operand)
  (ho:o.op=.call { callee:=.builtin .append,args:=#[s,x],argTypes:=#[22,22] }) (h:Dat) (k:List Dat) (p:Option Addr) (xv:Value) (hs:a.eval s=.slice p 1 1) (hx:a.eval x=xv) (h1:RepS (hide w S) w.heap.size [h] (.slice p 1 1)) (h2:RepS (hide w S) w.heap.size k xv) (hS:∀b,S b→b<w.heap.size) (hm:k.length≤999999) :
  o.wp prog a w (fun a' w'=>∃v,a'=a.put o.dst v∧RepS (hide w' S) w'.heap.size (h::k) v∧Below w.heap.size w w') Q:=by
 have h1':=h1
 obtain ⟨o1,l1,c1,he1,hl1,hc1,hm1,hr1⟩:=h1'
 simp only[Value.slice.injEq] at he1
 obtain ⟨rfl,rfl,rfl⟩:=he1
 obtain ⟨ox,lenx,capx,rfl,hlx,hcx,hmx,hrx⟩:=h2
 obtain ⟨i0,hi,hz0,hz1,hz2⟩:=info_parts zcw
 cases k with
 | nil=>
  have h0:lenx=0:=by simpa using hlx
  subst h0
  have hr:∀ty,(Builtin.append_ #[22,22] ty #[.slice p 1 1,.slice ox 0 capx]).run prog w=.ok (.slice p 1 1) w:=fun ty=>by
   cases p<;>cases ox<;>simp[go_sem,Builtin.append_,Builtin.firstCells,storeCells,Builtin.lenOf]
  unfold Oper.wp execOp
  simp only[ho,resolve,invoke,builtin,Sem.run_bind,Sem.run_pure,Result.andThen_ok,List.map_toArray,List.map_cons,List.map_nil,hs,hx,hr]
  exact ⟨_,rfl,h1,Below.refl _ _⟩
 | cons y k=>
  cases p with
  | none=>exact absurd hr1.1 (by simp)
  | some ad=>
   cases ox with
   | none=>exact absurd hrx.1 (by simp)
   | some ax=>
    obtain ⟨hsp,hblk⟩:=hr1.1 (by simp)
    obtain ⟨blk,off,sp⟩:=ad
    obtain rfl:sp=none:=hsp
    obtain ⟨hspx,hblkx⟩:=hrx.1 (by simp)
    obtain ⟨blx,ofx,spx⟩:=ax
    obtain rfl:spx=none:=hspx
    obtain ⟨xs,k1,k2⟩:=zc5 _ _ hr1.2
    obtain ⟨ys,m1,m2⟩:=zc5 _ _ hrx.2
    have hrun:∀ty,∃v' w',(Builtin.append_ #[22,22] ty #[.slice (some ⟨blk,off,none⟩) 1 1,.slice (some ⟨blx,ofx,none⟩) lenx capx]).run prog w=.ok v' w'∧w'.ownsRow w.heap.size 26 5 v' (1+lenx) (xs++ys)∧w.grownBy w' none:=fun ty=>
     run_append_arg_grows w 22 ty 26 i0 (.agg #[.int .i64 0,.int .i64 0,.int .i64 0,.string ⟨#[]⟩,.slice none 0 0]) 5 64 underlying22 hi hz0 hz1 hz2 rfl (by decide) ⟨blk,off,none⟩ 1 1 xs (by rw[k1.length];rfl) (fun j u hu=>by have:=(zac (k2 j u hu)).2;rcases j with _ | j<;>simpa[Addr.add] using this) ⟨blx,ofx,none⟩ lenx capx ys (by rw[m1.length,hlx]) (fun j u hu=>by have:=(zac (m2 j u hu)).2;rcases j with _ | j<;>simpa[Addr.add] using this) (by rw[hlx];simp) (by rw[hlx];unfold maxLen;simp only[List.length_cons] at hm ⊢;omega) (by rw[hlx];simp only[List.length_cons] at hm ⊢;omega)
    obtain ⟨v',w',hr,hown,hgr⟩:=hrun o.type
    have hbl:Below w.heap.size w w':=⟨hgr.os,hgr.tape,hgr.output,hgr.size,fun c hc=>hgr.block c hc (by simp)⟩
    have sh:Shown w S w' S:=Shown.below hbl
    have hrep:RepS (hide w' S) w'.heap.size (h::y::k) v':=by
     have hc:CellsD (hide w' S) w'.heap.size ([h]++(y::k)) (xs++ys):=zbw (k1.shown sh hgr.size) (m1.shown sh hgr.size)
     have:=zbW (w:=hide w' S) (base:=w.heap.size) (B:=w'.heap.size) (l:=[h]++(y::k)) (zdJ (by rw[List.length_append,←hlx];exact hown) (fun g hg hs'=>by have:=(hown.lt g hg).1;have:=hS g hs';omega)) hc (by rw[za3];exact Nat.le_refl _)
     rwa[za3] at this
    clear hrun hr1 hrx hm hlx k1 k2 m1 m2
    unfold Oper.wp
    simp[execOp,ho,resolve,invoke,builtin,hs,hx,hr,Result.andThen]
    exact ⟨_,rfl,hrep,hbl⟩
end
section
open Go Go.RowKit
theorem Sy.binds_len {x:Dat} {ns vs:List Dat} (h:Sy.binds x=some (ns,vs)):ns.length+1≤Dat.all x∧vs.length+1≤Dat.all x:=by
 unfold Sy.binds at h
 split at h
 ·have h1:=Sy.bindsL_len h
  have h2:=za4 x
  omega
 ·cases h
def LOk (L:Dat→List Dat→Sy.M Dat):Prop:=∀(S:Nat→Prop) (b n:Nat) (f:Dat) (fv:Value) (l:List Dat) (sl:Value) (w:World) (r:Option (Dat × Nat)),L f l n=some r→(∀c,S c→c<w.heap.size)→S b→XP w b n→Env w→RepD (hide w S) w.heap.size f fv→RepS (hide w S) w.heap.size l sl →
 Calls prog 85 #[.pointer (some ⟨b,0,none⟩),fv,sl] w (XRes S b r w)
def LeR (S:Nat→Prop) (hv pv vv:Value) (h:Dat) (ys:List Dat) (ok:Prop) (i:Nat) (v:Value) (W:World):Prop:=match i with
 | 0=>v=hv
 | 1=>(∃p,v=.slice p 1 1)∧RepS (hide W S) W.heap.size [h] v
 | 2=>v=pv
 | 3=>v=vv
 | 4=>ok∧RepS (hide W S) W.heap.size ys v
 | 5=>ok∧RepS (hide W S) W.heap.size (h::ys) v
 | 6=>ok∧RepD (hide W S) W.heap.size (Dat.list (h::ys)) v
 | _=>True
theorem zlG {S:Nat→Prop} {hv pv vv:Value} {h:Dat} {ys:List Dat} {ok:Prop} {b:Nat} (hb:S b):∀i v (A B:World),LeR S hv pv vv h ys ok i v A→Turned (fun c=>c=b) A B→LeR S hv pv vv h ys ok i v B:=by
 intro i v A B h ht
 have hs:Shown A S B S:=Shown.turned ht fun c _ h=>by subst h;exact hb
 match i,h with
 | 0,h | 2,h | 3,h=>exact h
 | 1,h=>exact ⟨h.1,h.2.shown hs ht.size⟩
 | 4,h=>exact ⟨h.1,h.2.shown hs ht.size⟩
 | 5,h=>exact ⟨h.1,h.2.shown hs ht.size⟩
 | 6,h=>exact ⟨h.1,h.2.shown hs ht.size⟩
 | _+7,_=>exact trivial
theorem zh9 {E:Dat→Sy.M Dat} {L:Dat→List Dat→Sy.M Dat} (hE:EOk E) (hL:LOk L) (S:Nat→Prop) (b n:Nat) (x:Dat) (xv:Value) (l:List Dat) (sl:Value) (w:World) (r:Option (Dat × Nat)) (hr:Sy.orBad (Sy.binds x) (fun names values=>Sy.letF E L names values l) n=some r) (hS:∀c,S c→c<w.heap.size) (hb:S b) (hx:XP w b n) (hV:Env w) (hxv:RepD (hide w S) w.heap.size x xv) (hsh:Dat.shaped x=true) (hal:Dat.all x≤100000) (hv:RepS (hide w S) w.heap.size l sl) :
  Calls prog 108 #[.pointer (some ⟨b,0,none⟩),xv,sl] w (XRes S b r w):=by
 obtain ⟨k,m,d,st,o,len,cap,rfl⟩:=zae hxv.unhide
 obtain ⟨W0,hW0⟩:∃W0,(w.alloc (.cells #[.int .i64 k,.int .i64 m,.int .i64 d,.string st,.slice o len cap] 26)).alloc (.cells #[.int .i64 0,.int .i64 0,.int .i64 0,.string ⟨#[]⟩,.slice none 0 0] 26)=W0:=⟨_,rfl⟩
 have hbx:Box5 W0 (w.heap.size+1) 26 (.int .i64 0) (.int .i64 0) (.int .i64 0) (.string ⟨#[]⟩) (.slice none 0 0):=by rw[←hW0];have:=Box5.new (w.alloc (.cells #[.int .i64 k,.int .i64 m,.int .i64 d,.string st,.slice o len cap] 26)) 26 (.int .i64 0) (.int .i64 0) (.int .i64 0) (.string ⟨#[]⟩) (.slice none 0 0);rwa[World.size_alloc] at this
 have hfx:Box5 W0 w.heap.size 26 (.int .i64 k) (.int .i64 m) (.int .i64 d) (.string st) (.slice o len cap):=by rw[←hW0];exact (Box5.new w _ _ _ _ _ _).alloc _
 have hbl:Below w.heap.size w W0:=by rw[←hW0];exact (Below.one w _).trans ((Below.one _ _).mono (by simp))
 have hbw:b<w.heap.size:=hS b hb
 have hS1:∀c,S1 S (w.heap.size+1) c→c<W0.heap.size:=fun c hc=>hc.elim (fun h=>Nat.lt_of_lt_of_le (hS c h) hbl.size) fun h=>by subst h;exact hbx.lt
 have hshow:Shown w S W0 (S1 S (w.heap.size+1)):=fun c o' u hc hu=>by
  have hcl:=zai hu
  exact ⟨fun h=>h.elim hc fun h=>by omega,(hbl.cell (p:=⟨c,o',none⟩) hcl).trans hu⟩
 have HC:=zh (zbv (S1 S (w.heap.size+1)) x _ W0.heap.size W0 hS1 (hxv.shown hshow hbl.size) (Nat.le_refl _) hsh hal)
 have HBX:=zh hbx
 have HBL:=zh hbl
 have HW0:=zh hW0
 have HLT:=zh hbw
 have HB:=zh hb
 have HS1:=zh hS1
 have HLV:=zh (hv.shown hshow hbl.size)
 have HX:=zh (show XP W0 b n from hx.keep hbl)
 have HX0:=zh hx
 have HV:=zh hV
 have HL:=zh hL
 have HE:=zh hE
 have HR:=zh hr
 have HAL:=zh hal
 have HSA:=zh (za4 x)
 obtain ⟨q0,q1,q2,q3,q4⟩:=hfx.cells
 have ql:=hfx.lt
 clear hbx hfx hbl hW0 hbw hb hS1 hxv hv hx hV hL hE hr hS hsh hal hshow
 go_enter func108,ntmps108
 go_upto_region 1 with fail
 rw[HW0.out]
 go_upto_region 2 with (first | (go_at_call 76;refine HC.out.mono ?_;rintro e' w1 ⟨ln,lv,vn,vv,ok,rfl,hg1,hg2,hb1,hok1,hok2, -⟩) | fail)
 have HT1:=zh (show Turned (fun c=>c=b) w w1 from Turned.of_below (HBL.out.trans (hb1.mono HBL.out.size)))
 cases ok
 ·have hbn:=hok2 rfl
  have hrn:r=none:=by
   have h:=HR.out
   rw[hbn] at h
   exact (Option.some.inj h).symm
  subst hrn
  go_wp2_with (first | (go_at_call 30;refine (zaf _).mono ?_;rintro e' w2 ⟨rfl,rfl⟩) | fail)
  exact ⟨rfl,rfl,HT1.out⟩
 ·have hbn:=hok1 rfl
  have HBL1:=zh (Sy.binds_len hbn)
  have HR2:=zh (show Sy.letF E L ln lv l n=some r from by have h:=HR.out;rw[hbn] at h;exact h)
  have HDI:=zh (zaL ln vn w1.heap.size w1 hg1.rep.unhide (Nat.le_refl _) (by have:=HBL1.out.1;have:=HAL.out;omega))
  have HG1:=zh hg1
  have HG2:=zh hg2
  have HB1:=zh hb1
  obtain ⟨di,hdi⟩:∃di,Sy.distinct ln=di:=⟨_,rfl⟩
  rw[hdi] at HDI
  clear hg1 hg2 hb1 hok1 hok2 hbn q0 q1 q2 q3 q4 ql
  cases di
  ·have hrn:r=none:=by
    have h:=HR2.out
    unfold Sy.letF Sy.need at h
    rw[hdi] at h
    exact (Option.some.inj h).symm
   subst hrn
   go_wp2_with (first | (go_at_call 49;refine HDI.out.mono ?_;rintro e' w2 ⟨rfl,hb2⟩) | (go_at_call 30;refine (zaf _).mono ?_;rintro e' w3 ⟨rfl,rfl⟩) | fail)
   exact ⟨rfl,rfl,HT1.out.next (Turned.of_below hb2)⟩
  ·go_upto_region 3 with (first | (go_at_call 49;refine HDI.out.mono ?_;rintro e' w2 ⟨rfl,hb2⟩) | (go_at_call 30;refine (zag _).mono ?_;rintro e' w3 ⟨⟨v3,rfl⟩,rfl⟩) | fail)
   have HT3:=zh (HT1.out.next (Turned.of_below hb2))
   have hz0:=HB1.out.size
   have hz2:=hb2.size
   have HX3:=zh (show XP w3 b n from (HX.out.keepB HB1.out).keepB hb2)
   have HN3:=zh (show RepS (hide w3 (S1 S (w.heap.size+1))) w3.heap.size ln vn from (HG1.out.less (S:=(S1 S (w.heap.size+1))) (fun c h=>.inl h) (Nat.le_refl _)).rep.shown (Shown.below hb2) hb2.size)
   have HV3:=zh (show RepS (hide w3 (S1 S (w.heap.size+1))) w3.heap.size lv vv from (HG2.out.less (S:=(S1 S (w.heap.size+1))) (fun c h=>.inl h) (Nat.le_refl _)).rep.shown (Shown.below hb2) hb2.size)
   have HL3:=zh (show RepS (hide w3 (S1 S (w.heap.size+1))) w3.heap.size l sl from (HLV.out.shown (Shown.below HB1.out) HB1.out.size).shown (Shown.below hb2) hb2.size)
   have HBX3:=zh (show Box5 w3 (w.heap.size+1) 26 (.int .i64 0) (.int .i64 0) (.int .i64 0) (.string ⟨#[]⟩) (.slice none 0 0) from (hb2.block _ (Nat.lt_of_lt_of_le HBX.out.lt hz0)).trans ((HB1.out.block _ HBX.out.lt).trans HBX.out))
   have hzz:W0.heap.size≤w3.heap.size:=Nat.le_trans hz0 hz2
   have HS3:=zh (fun c (hc:(S1 S (w.heap.size+1)) c)=>Nat.lt_of_lt_of_le (HS1.out c hc) hzz)
   have HR3:=zh (show Sy.bnd (L (Dat.list ln) l) (fun f=>Sy.bnd (Sy.all E lv) fun r=>Sy.ret (Dat.list (f::r))) n=some r from by have h:=HR2.out;unfold Sy.letF Sy.need at h;rw[hdi] at h;exact h)
   clear hb2 hz0 hz2 hzz hdi
   obtain ⟨q,hq⟩:∃q,L (Dat.list ln) l n=q:=⟨_,rfl⟩
   match q,hq with
   | none,hq=>
    have h:=HR3.out
    unfold Sy.bnd at h
    rw[hq] at h
    cases h
   | some none,hq=>
    have hrn:r=none:=by
     have h:=HR3.out
     unfold Sy.bnd at h
     rw[hq] at h
     exact (Option.some.inj h).symm
    subst hrn
    have HQ:=zh hq
    clear hq
    go_wp2_with (first | (go_at_call 87;refine (zaR (S1 S (w.heap.size+1)) ln vn _ w3 HS3.out HN3.out (Nat.le_refl _)).mono ?_;rintro e' w4 ⟨v4,rfl,hr4,hb4⟩) | (go_at_call 85;refine (HL.out (S1 S (w.heap.size+1)) b n (Dat.list ln) v4 l sl w4 none HQ.out (fun c hc=>Nat.lt_of_lt_of_le (HS3.out c hc) hb4.size) (.inl HB.out) (HX3.out.keepB hb4) (Env.turned HV.out HX0.out (HT3.out.next (Turned.of_below hb4))) hr4 (HL3.out.shown (Shown.below hb4) hb4.size)).mono ?_;rintro e' w5 ⟨rfl,ht5⟩) | fail)
    exact ⟨rfl,rfl,(HT3.out.next (Turned.of_below hb4)).next ht5⟩
   | some (some (g,n1)),hq=>
    have HQ:=zh hq
    have HR4:=zh (show Sy.bnd (Sy.all E lv) (fun r=>Sy.ret (Dat.list (g::r))) n1=some r from by
     have h:=HR3.out
     unfold Sy.bnd at h
     rw[hq] at h
     exact h)
    clear hq
    go_upto_region 4 with (first | (go_at_call 87;refine (zaR (S1 S (w.heap.size+1)) ln vn _ w3 HS3.out HN3.out (Nat.le_refl _)).mono ?_;rintro e' w4 ⟨v4,rfl,hr4,hb4⟩) | (go_at_call 85;refine (HL.out (S1 S (w.heap.size+1)) b n (Dat.list ln) v4 l sl w4 (some (g,n1)) HQ.out (fun c hc=>Nat.lt_of_lt_of_le (HS3.out c hc) hb4.size) (.inl HB.out) (HX3.out.keepB hb4) (Env.turned HV.out HX0.out (HT3.out.next (Turned.of_below hb4))) hr4 (HL3.out.shown (Shown.below hb4) hb4.size)).mono ?_;rintro e' w5 ⟨v5,rfl,hr5,ht5,hx5⟩;obtain ⟨k9,m9,d9,s9,o9,len9,cap9,rfl⟩:=zae hr5.unhide) | fail)
    have hone:Below w5.heap.size w5 (w5.alloc (.cells #[.int .i64 k9,.int .i64 m9,.int .i64 d9,.string s9,.slice o9 len9 cap9] 26)):=Below.one _ _
    have hbn:Box5 (w5.alloc (.cells #[.int .i64 k9,.int .i64 m9,.int .i64 d9,.string s9,.slice o9 len9 cap9] 26)) w5.heap.size 26 (.int .i64 k9) (.int .i64 m9) (.int .i64 d9) (.string s9) (.slice o9 len9 cap9):=Box5.new w5 _ _ _ _ _ _
    have htt:Turned (fun c=>c=b) w3 (w5.alloc (.cells #[.int .i64 k9,.int .i64 m9,.int .i64 d9,.string s9,.slice o9 len9 cap9] 26)):=((Turned.of_below hb4).next ht5).next (Turned.of_below hone)
    have hsh:Shown w3 (S1 S (w.heap.size+1)) (w5.alloc (.cells #[.int .i64 k9,.int .i64 m9,.int .i64 d9,.string s9,.slice o9 len9 cap9] 26)) (S1 S (w.heap.size+1)):=Shown.turned htt fun c _ hc=>by subst hc;exact .inl HB.out
    have HX6:=zh (hx5.keepB hone)
    have HT6:=zh (HT3.out.next htt)
    have HV6:=zh (HV3.out.shown hsh htt.size)
    have HG6:=zh (hr5.shown (Shown.below hone) hone.size)
    have HBX6:=zh (show Box5 _ (w.heap.size+1) 26 (.int .i64 0) (.int .i64 0) (.int .i64 0) (.string ⟨#[]⟩) (.slice none 0 0) from (htt.block _ HBX3.out.lt (by have:=HLT.out;omega)).trans HBX3.out)
    have HS6:=zh (fun c (hc:(S1 S (w.heap.size+1)) c)=>Nat.lt_of_lt_of_le (HS3.out c hc) htt.size)
    have HNE:=zh (show w5.heap.size≠b from by have h1:=HS3.out b (.inl HB.out);have h2:=hb4.size;have h3:=ht5.size;omega)
    have HBN:=zh hbn
    clear hone hbn htt hsh hr5 hx5 ht5 hr4 hb4
    generalize w5.alloc (.cells #[.int .i64 k9,.int .i64 m9,.int .i64 d9,.string s9,.slice o9 len9 cap9] 26)=W6 at *
    generalize w5.heap.size=G at *
    obtain ⟨q,hq⟩:∃q,Sy.all E lv n1=q:=⟨_,rfl⟩
    match q,hq with
    | none,hq=>
     have h:=HR4.out
     unfold Sy.bnd at h
     rw[hq] at h
     cases h
    | some p,hq=>
    obtain ⟨ys,n2,hy⟩:∃ys n2,∀u,p=some u→u=(ys,n2):=by
     match p with
     | none=>exact ⟨[],0,fun _ h=>by cases h⟩
     | some (ys,n2)=>exact ⟨ys,n2,fun u h=>(Option.some.inj h).symm⟩
    have hd2:Below W6.heap.size W6 W6.drew:=(Below.refl W6.heap.size W6).drew
    have hxd:XP W6.drew b n1:=HX6.out.keepB hd2
    have HTB:=zh (show ∀w3,Turned (fun c=>c=b) W6.drew w3→Turned (fun c=>c=b) W6 w3 from fun w3 h=>(Turned.of_below hd2).next h)
    have HSH:=zh (show ∀w3,Turned (fun c=>c=b) W6 w3→Shown W6 (S1 S (w.heap.size+1)) w3 (S1 S (w.heap.size+1)) from fun w3 h=>Shown.turned h fun c _ hc=>by subst hc;exact .inl HB.out)
    have HQ6:=zh hq
    have HY:=zh hy
    have HYL:=zh (show p=some (ys,n2)→ys.length≤999999 from fun h=>by
     have h1:=hq
     rw[h] at h1
     rw[Sy.all_len h1]
     have:=HBL1.out.2
     have:=HAL.out
     omega)
    clear hq hy
    refine zcI (b:=b) 7 [4] (fun j=>if j=0 then n1 else n2) (LeR (S1 S (w.heap.size+1)) (.agg #[.int .i64 k9,.int .i64 m9,.int .i64 d9,.string s9,.slice o9 len9 cap9]) (.pointer (some ⟨b,0,none⟩)) vv g ys (p=some (ys,n2))) (by kernel_rfl) (by show monoB _ 7 36=true;kernel_rfl) (by decide) (by decide) ?hch hxd (fun i v A B _ h _ ht=>zlG (.inl HB.out) i v A B h ht) ?hops ?hcall ?hend
    case hch=>
     intro j p1 p2 h1 h2
     rcases j with _ | j<;>simp at h2
    case hops=>
     intro i o8 hi hip ho hgd a8 w8 hdf hsz hex hdep hrest
     have ht3:=HTB.out w8 hex
     match i,hi,hip with
     | 0,_,_=>
      obtain rfl:_=o8:=Option.some.inj ho
      have h10:a8.tmps.getD 10 undef=.pointer (some ⟨G,0,none⟩):=hrest.at 10 (by kernel_rfl)
      have hfb:Box5 w8 G 26 (.int .i64 k9) (.int .i64 m9) (.int .i64 d9) (.string s9) (.slice o9 len9 cap9):=(ht3.block _ HBN.out.lt HNE.out).trans HBN.out
      obtain ⟨q0,q1,q2,q3,q4⟩:=hfb.cells
      have ql:=hfb.lt
      exact za0 (v:=.agg #[.int .i64 k9,.int .i64 m9,.int .i64 d9,.string s9,.slice o9 len9 cap9]) (w':=w8) (by go_simp) rfl (Below.refl _ _)
     | 1,_,_=>
      obtain rfl:_=o8:=Option.some.inj ho
      have h28:a8.tmps.getD 28 undef=.agg #[.int .i64 k9,.int .i64 m9,.int .i64 d9,.string s9,.slice o9 len9 cap9]:=zaT hdep 0 28 (by kernel_rfl)
      exact za0 (zei rfl h28) ⟨⟨_,rfl⟩,zaA (fun c hc=>Nat.lt_of_lt_of_le (HS6.out c hc) ht3.size) (HG6.out.shown (HSH.out w8 ht3) ht3.size)⟩ (Below.one _ _)
     | 2,_,_=>
      obtain rfl:_=o8:=Option.some.inj ho
      have h0:a8.tmps.getD 0 undef=.pointer (some ⟨b,0,none⟩):=hrest.at 0 (by kernel_rfl)
      exact za0 (v:=.pointer (some ⟨b,0,none⟩)) (w':=w8) (by go_simp) rfl (Below.refl _ _)
     | 3,_,_=>
      obtain rfl:_=o8:=Option.some.inj ho
      have h8:a8.tmps.getD 8 undef=vv:=hrest.at 8 (by kernel_rfl)
      exact za0 (v:=vv) (w':=w8) (by go_simp) rfl (Below.refl _ _)
     | 4,_,h=>exact absurd (by decide) h
     | 5,_,_=>
      obtain rfl:_=o8:=Option.some.inj ho
      obtain ⟨⟨u,hu⟩,h29⟩:(∃u,a8.tmps.getD 29 undef=.slice u 1 1)∧RepS (hide w8 (S1 S (w.heap.size+1))) w8.heap.size [g] (a8.tmps.getD 29 undef):=zaT hdep 1 29 (by kernel_rfl)
      obtain ⟨hok,h32⟩:p=some (ys,n2)∧RepS (hide w8 (S1 S (w.heap.size+1))) w8.heap.size ys (a8.tmps.getD 32 undef):=zaT hdep 4 32 (by kernel_rfl)
      rw[hu] at h29
      refine Oper.wp_mono ?_ (zd6 (S:=(S1 S (w.heap.size+1))) (.tmp 29) (.tmp 32) rfl g ys u _ hu rfl h29 h32 (fun c hc=>Nat.lt_of_lt_of_le (HS6.out c hc) ht3.size) (HYL.out hok))
      rintro a' w' ⟨v,rfl,hv1,hv2⟩
      exact ⟨v,rfl,⟨hok,hv1⟩,hv2⟩
     | 6,_,_=>
      obtain rfl:_=o8:=Option.some.inj ho
      obtain ⟨hok,h33⟩:p=some (ys,n2)∧RepS (hide w8 (S1 S (w.heap.size+1))) w8.heap.size (g::ys) (a8.tmps.getD 33 undef):=zaT hdep 5 33 (by kernel_rfl)
      refine zba (vals:=#[a8.tmps.getD 33 undef]) rfl (by simp only[List.map_toArray,List.map_cons,List.map_nil];rfl) (fun _ _=>rfl) (zaR (S1 S (w.heap.size+1)) (g::ys) _ _ w8 (fun c hc=>Nat.lt_of_lt_of_le (HS6.out c hc) ht3.size) h33 (Nat.le_refl _)) ?_
      rintro e w' ⟨v,rfl,hv1,hv2⟩
      exact .inl ⟨v,rfl,v,rfl,⟨hok,hv1⟩,hv2⟩
    case hcall=>
     intro j i o8 hj ho hgd a8 w8 hdf hsz hex hxp hdep hrest
     have ht3:=HTB.out w8 hex
     have hj0:j=0:=by
      rcases j with _ | j
      ·rfl
      ·simp at hj
     subst hj0
     obtain rfl:4=i:=Option.some.inj hj
     obtain rfl:_=o8:=Option.some.inj ho
     have h30:a8.tmps.getD 30 undef=.pointer (some ⟨b,0,none⟩):=zaT hdep 2 30 (by kernel_rfl)
     have h31:a8.tmps.getD 31 undef=vv:=zaT hdep 3 31 (by kernel_rfl)
     refine zba (vals:=#[.pointer (some ⟨b,0,none⟩),vv]) rfl (by simp only[List.map_toArray,List.map_cons,List.map_nil];rw[←h30,←h31];rfl) (fun _ _=>rfl) (zbn HE.out (S1 S (w.heap.size+1)) b n1 lv vv w8 p HQ6.out (fun c hc=>Nat.lt_of_lt_of_le (HS6.out c hc) ht3.size) (.inl HB.out) hxp (Env.turned HV.out HX0.out (HT6.out.next ht3)) (HV6.out.shown (HSH.out w8 ht3) ht3.size) (by have:=HBL1.out.2;have:=HAL.out;omega)) ?_
     intro e w' he
     match p,HY.out,HQ6 with
     | none,_,HQ6=>
      obtain ⟨rfl,ht4⟩:=he
      refine .inr ⟨_,rfl,?_⟩
      have hrn:r=none:=by
       have h:=HR4.out
       unfold Sy.bnd at h
       rw[HQ6.out] at h
       exact (Option.some.inj h).symm
      subst hrn
      exact ⟨hdf,rfl,(HT6.out.next ht3).next ht4⟩
     | some u,hy,_=>
      obtain rfl:=hy u rfl
      obtain ⟨v,rfl,hv1,hv2,hv3⟩:=he
      exact .inl ⟨v,rfl,v,rfl,⟨rfl,hv1.rep⟩,hv2,hv3⟩
    case hend=>
     intro a8 w8 hdf hsz hex hxp hval hrest
     have ht3:=HTB.out w8 hex
     obtain ⟨hok,h34⟩:p=some (ys,n2)∧RepD (hide w8 (S1 S (w.heap.size+1))) w8.heap.size (Dat.list (g::ys)) (a8.tmps.getD 34 undef):=hval 6 _ 34 (by omega) rfl rfl
     have hrn:r=some (Dat.list (g::ys),n2):=by
      have h:=HR4.out
      unfold Sy.bnd at h
      rw[HQ6.out,hok] at h
      exact (Option.some.inj h).symm
     subst hrn
     obtain ⟨f8,ha,hf8⟩:=zaq [false,false,false,false,false,false,false,false,false,false,false,false,false,false,false,false,false,false,false,false,false,false,false,false,false,false,false,false,true,true,true,true,true,true,true] (by kernel_rfl) hdf hsz hrest
     rw[←hf8] at h34
     subst ha
     obtain ⟨k8,m8,d8,s8,o8,len8,cap8,h8⟩:=zae h34.unhide
     rw[h8] at h34
     have hx8:Box5 w8 (w.heap.size+1) 26 (.int .i64 0) (.int .i64 0) (.int .i64 0) (.string ⟨#[]⟩) (.slice none 0 0):=(ht3.block _ HBX6.out.lt (by have:=HLT.out;omega)).trans HBX6.out
     obtain ⟨p0,p1,p2,p3,p4⟩:=hx8.cells
     obtain ⟨z0,z1,z2,z3,z4⟩:=hx8.free
     have pl:=hx8.lt
     have HX8:=zh hx8
     have H34:=zh h34
     have HXP:=zh (show XP w8 b n2 from hxp)
     have HT8:=zh ht3
     clear hval hrest hf8 hex hdf hsz h34 hx8 hxp ht3
     simp only[spellH,List.drop_succ_cons,List.drop_zero,h8]
     go_wp2_with fail
     have HR5:=zh (HX8.out.set (.int .i64 k8) (.int .i64 m8) (.int .i64 d8) (.string s8) (.slice o8 len8 cap8))
     obtain ⟨r0,r1,r2,r3,r4⟩:=HR5.out.cells
     refine bodyPost_ret (v:=.agg #[.int .i64 k8,.int .i64 m8,.int .i64 d8,.string s8,.slice o8 len8 cap8]) (by simp[results,results108,go_sem,r0,r1,r2,r3,r4]) rfl ?_
     exact zb1 (by omega) HLT.out (HT6.out.next HT8.out) H34.out HXP.out
end
end Go.Proofs.YtnbjhmafnigefaaGreatDoor
