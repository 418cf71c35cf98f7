/-
  What the proofs lean on: UsesT, FoldH, CkE.
-/
import Derived.Test.YtgbibibmpoekiaaGreatDoorShfA17
import Derived.Test.YtgbibibmpoekiaaGreatDoorShfA23
import Derived.Test.YtgbibibmpoekiaaGreatDoorShfA24
set_option maxRecDepth 100000
set_option maxHeartbeats 16000000
namespace Go.Proofs.YtgbibibmpoekiaaGreatDoor
section
open Go Go.RowKit
attribute [local go_sem] Oper.semAt_some
theorem tnames_any (o n:Int) (ov ot:Option Addr) (lv cv lt ct:Nat) (w:World) :
  Calls Tryz.prog 101 #[.agg #[.int .i64 o,.int .i64 n,.slice ov lv cv,.slice ot lt ct]] w fun e w'=>e=.returned (.bool ((o==1 || o==2) || o==14))∧Below w.heap.size w w':=by
 have hb:=Below.one w (.cells #[.int .i64 o,.int .i64 n,.slice ov lv cv,.slice ot lt ct] 26)
 have HB:=Lib.hid hb
 clear hb
 by_cases h1:o=1
 ·subst h1
  go_enter Tryz.func101,Tryz.ntmps101
  go_wp2_with fail
  go_ret
  exact ⟨rfl,by first | exact HB.out | exact Below.drewN HB.out _⟩
 have f1:(o==1)=false:=by simpa using h1
 rw[f1]
 by_cases h2:o=2
 ·subst h2
  go_enter Tryz.func101,Tryz.ntmps101
  go_wp2_with fail
  go_ret
  exact ⟨rfl,by first | exact HB.out | exact Below.drewN HB.out _⟩
 have f2:(o==2)=false:=by simpa using h2
 rw[f2]
 by_cases h3:o=14
 ·subst h3
  go_enter Tryz.func101,Tryz.ntmps101
  go_wp2_with fail
  go_ret
  exact ⟨rfl,by first | exact HB.out | exact Below.drewN HB.out _⟩
 have f3:(o==14)=false:=by simpa using h3
 rw[f3]
 go_enter Tryz.func101,Tryz.ntmps101
 go_wp2_with fail
 go_ret
 exact ⟨rfl,by first | exact HB.out | exact Below.drewN HB.out _⟩
theorem tall_any (c0 c1:Value) (ov ot:Option Addr) (lv cv lt ct:Nat) (o n:Int) (h0:c0=.int .i64 o) (h1:c1=.int .i64 n) (w:World) :
  Calls Tryz.prog 31 #[.agg #[c0,c1,.slice ov lv cv,.slice ot lt ct]] w fun e w'=>e=.returned (.func (.func 54) #[] #[.pointer (some ⟨w.heap.size,0,none⟩)])∧w'=w.alloc (.cells #[c0,c1,.slice ov lv cv,.slice ot lt ct] 26):=by
 subst h0 h1
 go_enter Tryz.func31,Tryz.ntmps31
 go_wp2_with fail
 go_ret
 exact ⟨rfl,rfl⟩
theorem all1_any {l:Nat} {T:Nat→Prop} {N:Nat} {J:List Met→World→Prop} (hJ:∀s A B,J s A→Below A.heap.size A B→J s B)
  (hY:∀m pre y W1,J pre W1→pre.length<N→YieldAt Fence.wide m Tryz.prog l #[Met.enc y] W1 fun e W'=>e=.returned (.bool true)∧J (pre++[y]) W'∧KeepC T W1 W')
  (x:Trm) (c0 c1 c2 c3:Value) (tb:Nat) (W:World) (hx:TrmR (hide W T) W.heap.size x [c0,c1,c2,c3]) (hb:BoxL W tb 26 [c0,c1,c2,c3]) (hT:∀b,T b→b<W.heap.size) (ha:x.all≤1000) (hn:x.bnd.length≤3000000) (hN:x.all≤N) (h0:J [] W) :
  Calls Tryz.prog 54 #[.func (.yield l) #[] #[],.pointer (some ⟨tb,0,none⟩)] W fun e W'=>(∃v,e=.returned v)∧∃ms,ms.map Met.key=x.pre.map Trm.key∧J ms W':=by
 obtain ⟨ov,lv,cv,ot,lt,ct,he,_⟩:=trmR_form hx
 simp only[List.cons.injEq,and_true] at he
 obtain ⟨rfl,rfl,rfl,rfl⟩:=he
 have hmf:∀(fn:Fn) (first cap:Array Value) (w:World),(Instr.makeFunc fn first cap).run Tryz.prog w=.ok (.func fn first cap) w:=fun _ _ _ _=>rfl
 have b0:=hb.cell 0 rfl
 have b1:=hb.cell 1 rfl
 have b2:=hb.cell 2 rfl
 have b3:=hb.cell 3 rfl
 have bl:=hb.lt
 obtain ⟨W1,hW1⟩:∃W1,(W.alloc (.cells #[.func (.yield l) #[] #[]] 79)).alloc (.cells #[.func (.func 55) #[] #[.pointer (some ⟨W.heap.size,0,none⟩),.pointer (some ⟨W.heap.size+1,0,none⟩)]] 80)=W1:=⟨_,rfl⟩
 have hbw:Below W.heap.size W W1:=by rw[←hW1];exact (Below.one W _).trans ((Below.one _ _).mono (by simp))
 have HY:=Lib.hid (show BoxL W1 W.heap.size 79 [.func (.yield l) #[] #[]] from by rw[←hW1];exact (BoxL.new rfl _ _).alloc _)
 have HW:=Lib.hid (show BoxL W1 (W.heap.size+1) 80 [.func (.func 55) #[] #[.pointer (some ⟨W.heap.size,0,none⟩),.pointer (some ⟨W.heap.size+1,0,none⟩)]] from by rw[←hW1];exact BoxL.new (by simp) _ _)
 have HC:=Lib.hid (walk_any hJ hY (fun h=>Nat.lt_irrefl _ (hT _ h)) (fun h=>by have:=hT _ h;omega) x _ _ _ _ (.slice none 0 0) [] 0 [] W1 (hx.shown (Shown.below hbw) hbw.size) ⟨none,0,0,rfl,rfl,by omega,by omega,rfl,rfl⟩ HY.out HW.out (fun b h=>by have:=hT b h;have:=hbw.size;omega) (by omega) (by simp;omega) (by simp;omega) (hJ _ _ _ h0 hbw))
 have HW1:=Lib.hid hW1
 clear hb hx h0 hY hJ hbw hW1 hT
 go_enter Tryz.func54,Tryz.ntmps54
 go_wp2_with fail
 rw[HW1.out]
 refine HC.out.mono ?_
 rintro e W2 ⟨rfl,ms,hm,hj,_⟩
 have HM:=Lib.hid hm
 have HJ:=Lib.hid hj
 clear hm hj
 go_wp2_with fail
 go_end0
 exact ⟨⟨_,rfl⟩,ms,HM.out,by simpa using HJ.out⟩
def metRefs (v:Int) (l:List Met):Nat:=l.countP fun m=>m.o==1&&m.n==v
theorem metRefs_snoc (v:Int) (l:List Met) (m:Met):metRefs v (l++[m])=metRefs v l+if (m.o==1&&m.n==v)=true then 1 else 0:=by
 rw[metRefs,metRefs,List.countP_append,List.countP_singleton]
theorem metRefs_key (v:Int) {ms:List Met} {l:List Trm} (h:ms.map Met.key=l.map Trm.key):metRefs v ms=Trm.refs v l:=by
 have e1:metRefs v ms=(ms.map Met.key).countP fun p=>p.1==1&&p.2==v:=by rw[List.countP_map];rfl
 have e2:Trm.refs v l=(l.map Trm.key).countP fun p=>p.1==1&&p.2==v:=by rw[List.countP_map];rfl
 rw[e1,e2,h]
structure UsI (w:World) (v:Int) (pre:List Met) (W:World):Prop where
 vb:BoxL W (w.heap.size+1) 3 [.int .i64 v]
 rb:BoxL W (w.heap.size+1+1) 3 [.int .i64 (metRefs v pre)]
 sb:∃k:Nat,BoxL W (w.heap.size+1+1+1) 3 [.int .i64 k]∧k≤pre.length
 below:Below w.heap.size w W
theorem uses_any (x:Trm) (c0 c1 c2 c3:Value) (v:Int) (B:Nat) (w:World) (hx:TrmR w B x [c0,c1,c2,c3]) (hB:B≤w.heap.size) (ha:x.all≤1000) (hn:x.bnd.length≤3000000) :
  Calls Tryz.prog 77 #[.agg #[c0,c1,c2,c3],.int .i64 v] w fun e w'=>(∃k:Int,e=.returned (.tuple #[.int .i64 (Trm.refs v x.pre:Nat),.int .i64 k]))∧Below w.heap.size w w':=by
 obtain ⟨ov,lv,cv,ot,lt,ct,he,_⟩:=trmR_form hx
 simp only[List.cons.injEq,and_true] at he
 obtain ⟨rfl,rfl,rfl,rfl⟩:=he
 obtain ⟨W4,hW4⟩:∃W4,(((w.alloc (.cells #[.int .i64 x.op,.int .i64 x.n,.slice ov lv cv,.slice ot lt ct] 26)).alloc (.cells #[.int .i64 v] 3)).alloc (.cells #[.int .i64 0] 3)).alloc (.cells #[.int .i64 0] 3)=W4:=⟨_,rfl⟩
 have hb4:Below w.heap.size w W4:=by rw[←hW4];exact ((((Below.refl _ _).alloc (Nat.le_refl _) _).alloc (by simp) _).alloc (by simp;omega) _).alloc (by simp;omega) _
 have hs4:W4.heap.size=w.heap.size+4:=by rw[←hW4];simp
 have HI4:=Lib.hid (show UsI w v [] W4 from by
  rw[←hW4]
  exact ⟨(((BoxL.new (by simp) _ _).alloc _).alloc _),(BoxL.new (by simp) _ _).alloc _,⟨0,BoxL.new (by simp) _ _,Nat.le_refl _⟩,by rw[hW4];exact hb4⟩)
 have HX4:=Lib.hid (show BoxL W4 w.heap.size 26 [.int .i64 x.op,.int .i64 x.n,.slice ov lv cv,.slice ot lt ct] from by rw[←hW4];exact (((BoxL.new rfl _ _).alloc _).alloc _).alloc _)
 have HXR:=Lib.hid (TrmR.kept (hb4.mono hB) _ _ hx)
 have HW4:=Lib.hid hW4
 have HB4:=Lib.hid hb4
 have HS4:=Lib.hid hs4
 clear hx hW4 hb4 hs4
 refine callsW_of_wp (n:=6) Tryz.func77 rfl ?_
 simp only[Tryz.ntmps77,List.size_toArray,List.length_cons,List.length_nil,Nat.reduceAdd,Nat.reduceSub,Array.replicate_succ,Array.replicate_zero,List.push_toArray,List.append_toArray,List.nil_append,List.cons_append]
 go_upto_region 2 with fail
 rw[HW4.out]
 have x0:=HX4.out.cell 0 rfl
 have x1:=HX4.out.cell 1 rfl
 have x2:=HX4.out.cell 2 rfl
 have x3:=HX4.out.cell 3 rfl
 have xl:=HX4.out.lt
 go_wp2_with (first | (go_at_call 31;refine (tall_any _ _ ov ot lv cv lt ct x.op x.n rfl rfl _).mono ?_;rintro e w5 ⟨rfl,hw5⟩) | fail)
 obtain ⟨W5,hW5⟩:∃W5,W4.alloc (.cells #[.int .i64 x.op,.int .i64 x.n,.slice ov lv cv,.slice ot lt ct] 26)=W5:=⟨_,rfl⟩
 rw[hW5]
 clear hw5 w5
 obtain ⟨w5,rfl⟩:∃w5,w5=W5:=⟨_,rfl⟩
 have hb5:Below W4.heap.size W4 w5:=by rw[←hW5];exact Below.one _ _
 have HBX:=Lib.hid (show BoxL w5 W4.heap.size 26 [.int .i64 x.op,.int .i64 x.n,.slice ov lv cv,.slice ot lt ct] from by rw[←hW5];exact BoxL.new rfl _ _)
 have hI5:UsI w v [] w5:=⟨HI4.out.vb.keep hb5,HI4.out.rb.keep hb5,by obtain ⟨k,h1,h2⟩:=HI4.out.sb;exact ⟨k,h1.keep hb5,h2⟩,HI4.out.below.trans (hb5.mono (by have:=HS4.out;omega))⟩
 have HI5:=Lib.hid hI5
 have hs5:w.heap.size+5=w5.heap.size:=by rw[←hW5,World.size_alloc,HS4.out]
 have HXT:=Lib.hid (show TrmR (hide w5 (fun b=>b=w.heap.size+1+1∨b=w.heap.size+1+1+1)) w5.heap.size x [.int .i64 x.op,.int .i64 x.n,.slice ov lv cv,.slice ot lt ct] from
  TrmR.wider (by omega) _ _ ((TrmR.kept (hb5.mono (by have:=HS4.out;omega)) _ _ HXR.out).dug fun b hb=>by omega))
 clear hb5 hI5 x0 x1 x2 x3 xl HX4 hW5 HW4 HXR
 refine wpW_act fun a0 ha0=>?_
 refine (wpIn_wide (n:=6)).1 ?_
 refine wpIn_range_T (gf:=54) (lb:=#[.pointer (some ⟨W4.heap.size,0,none⟩)]) (by rw[ha0];rfl) (enters_of Tryz.func54 (by kernel_rfl) rfl) Met.enc (fun b=>b=w.heap.size+1+1∨b=w.heap.size+1+1+1) (fun b hb=>by omega) (fun ms=>ms.map Met.key=x.pre.map Trm.key) 1000 ?seq rfl (UsI w v) ?hI HI5.out
  (fun m a9 W=>∃bx,BoxL W bx 82 [.int .i64 m.o,.int .i64 m.n,slvT m.v,slvT m.t,slvT m.s]∧a9 = { tmps:=(a0.tmps.setIfInBounds 11 m.enc).setIfInBounds 8 (.pointer (some ⟨bx,0,none⟩)),defers:=[] }) (fun m a9 A B hk _ ⟨bx,h1,h2⟩=>⟨bx,hk _ _ _ _ h1,h2⟩) ?assign ?body ?done
 case seq=>
  intro l J W hJ hbw hY h0
  exact (callsIn_wide (n:=5)).2 (all1_any hJ hY x _ _ _ _ W4.heap.size W (HXT.out.shown (KeepC.of_below (hbw)).shown hbw.size) (HBX.out.keep hbw) (fun b hb=>by have:=hbw.size;omega) ha hn ha h0)
 case hI=>
  rintro s A C ⟨h1,h2,⟨k,h3,h4⟩,h5⟩ ht
  exact ⟨ht.box h1 (by omega),ht.box h2 (by omega),⟨k,ht.box h3 (by omega),h4⟩,h5.trans (ht.below (fun b hb=>by omega) h5.size)⟩
 case assign=>
  intro l m9 m W K hK
  subst ha0
  simp only[Met.enc,slvT] at hK ⊢
  gi_wp2
  exact hK _ _ (Below.one W _) ⟨W.heap.size,BoxL.new rfl _ _,rfl⟩
 case body=>
  rintro l m9 pre m a9 W hI ⟨bx,hbx,rfl⟩ hlt
  obtain ⟨mo,mn,⟨ov1,lv1,cv1⟩,⟨ot1,lt1,ct1⟩,⟨os1,ls1,cs1⟩⟩:=m
  subst ha0
  simp only[Met.enc,slvT,List.setIfInBounds_toArray,List.set_cons_succ,List.set_cons_zero] at hbx ⊢
  have HI:=Lib.hid hI
  have HB:=Lib.hid hbx
  have g0:=hbx.cell 0 rfl
  have g1:=hbx.cell 1 rfl
  have g2:=hbx.cell 2 rfl
  have g3:=hbx.cell 3 rfl
  have gl:=hbx.lt
  obtain ⟨q,hq⟩:∃q,((mo==1 || mo==2) || mo==14)=q:=⟨_,rfl⟩
  have HN:=Lib.hid (fun (W:World)=>CallsIn.inRound l ((callsIn_wide (n:=m9-1)).2 (tnames_any mo mn ov1 ot1 lv1 cv1 lt1 ct1 W)))
  rw[hq] at HN
  have HQ:=Lib.hid hq
  clear hbx hI hq
  gi_wp2
  refine ⟨trivial,fun h=>(by cases h),?_⟩
  refine (HN.out _).mono ?_
  rintro e W2 ⟨rfl,hb2⟩
  have HB2:=Lib.hid hb2
  have HX2:=Lib.hid (HB.out.keep hb2)
  have V2:=Lib.hid (HI.out.vb.keep hb2)
  have R2:=Lib.hid (HI.out.rb.keep hb2)
  obtain ⟨k,hk1,hk2⟩:=HI.out.sb
  have S2:=Lib.hid (hk1.keep hb2)
  have hrl:metRefs v pre≤1000:=Nat.le_trans (List.countP_le_length) (by omega)
  clear hb2 hk1 g0 g1 g2 g3 gl HN
  have g0:=HX2.out.cell 0 rfl
  have g1:=HX2.out.cell 1 rfl
  have g2:=HX2.out.cell 2 rfl
  have g3:=HX2.out.cell 3 rfl
  have g4:=HX2.out.cell 4 rfl
  have gl:=HX2.out.lt
  have v0:=V2.out.cell 0 rfl
  have vl:=V2.out.lt
  have hwz:=HI.out.below.size
  cases q with
  | false=>
   gi_wp2
   exact ⟨.of_below HB2.out,V2.out,by rw[metRefs_snoc,if_neg (by have:=HQ.out;simp at this;simp[this.1.1])];exact R2.out,⟨k,S2.out,by rw[List.length_append];omega⟩,HI.out.below.trans (HB2.out.mono HI.out.below.size)⟩
  | true=>
   by_cases hv:mn=v
   ·subst hv
    by_cases h1:mo=1
    ·subst h1
     have r0:=R2.out.cell 0 rfl
     have rz:=R2.out.free 0
     have rl:=R2.out.lt
     gi_wp2
     refine ⟨(Turned.of_below HB2.out).next (.set _ _ _ (.inl rfl)),V2.out.other _ _ (by show w.heap.size+1≠w.heap.size+1+1;omega),?_,⟨k,S2.out.other _ _ (by show w.heap.size+1+1+1≠w.heap.size+1+1;omega),by rw[List.length_append];omega⟩,(HI.out.below.trans (HB2.out.mono hwz)).setCell (p:=⟨w.heap.size+1+1,0,none⟩) (by dsimp only;omega) _⟩
     rw[metRefs_snoc,if_pos (by simp)]
     exact R2.out.set 0 (.int .i64 ((metRefs mn pre:Nat)+1))
    ·have f1:(mo==1)=false:=by simpa using h1
     have r0:=S2.out.cell 0 rfl
     have rz:=S2.out.free 0
     have rl:=S2.out.lt
     gi_wp2
     refine ⟨(Turned.of_below HB2.out).next (.set _ _ _ (.inr rfl)),V2.out.other _ _ (by show w.heap.size+1≠w.heap.size+1+1+1;omega),by rw[metRefs_snoc,if_neg (by simp[h1])];exact R2.out.other _ _ (by show w.heap.size+1+1≠w.heap.size+1+1+1;omega),⟨k+1,?_,by rw[List.length_append];simp;omega⟩,(HI.out.below.trans (HB2.out.mono hwz)).setCell (p:=⟨w.heap.size+1+1+1,0,none⟩) (by dsimp only;omega) _⟩
     exact S2.out.set 0 (.int .i64 ((k:Nat)+1))
   ·have fv:(mn != v)=true:=by simpa using hv
    gi_wp2
    exact ⟨.of_below HB2.out,V2.out,by rw[metRefs_snoc,if_neg (by simp[hv])];exact R2.out,⟨k,S2.out,by rw[List.length_append];omega⟩,HI.out.below.trans (HB2.out.mono HI.out.below.size)⟩
 case done=>
  rintro D ms W hD hms hI hd
  obtain ⟨k,hk,hk2⟩:=hI.sb
  have HM:=Lib.hid (metRefs_key v hms)
  have HBL:=Lib.hid hI.below
  have HDD:=Lib.hid hd
  have r0:=hI.rb.cell 0 rfl
  have rl:=hI.rb.lt
  have s0:=hk.cell 0 rfl
  subst ha0
  go_wp2_with fail
  go_region
  all_goals go_wp2_with fail
  refine postW_ret (D:=D) (v:=.tuple #[.int .i64 (metRefs v ms:Nat),.int .i64 k]) HDD.out (by simp[results,Tryz.f77,go_sem]) rfl ⟨⟨k,by rw[HM.out]⟩,(HBL.out.drew).grown (grownBy_putObj' _ D _) HBL.out.size (fun b e=>by cases e;omega)⟩
theorem fnamed_any (x:Trm) (c0 c1 c2 c3:Value) (v:Int) (B:Nat) (w:World) (hx:TrmR w B x [c0,c1,c2,c3]) (hB:B≤w.heap.size) (ha:x.all≤1000) (hn:x.bnd.length≤3000000) :
  Calls Tryz.prog 43 #[.agg #[c0,c1,c2,c3],.int .i64 v] w fun e w'=>e=.returned (.bool (Fd.named v x))∧Below w.heap.size w w':=by
 obtain ⟨ov,lv,cv,ot,lt,ct,he,_⟩:=trmR_form hx
 simp only[List.cons.injEq,and_true] at he
 obtain ⟨rfl,rfl,rfl,rfl⟩:=he
 have hb1:=Below.one w (.cells #[.int .i64 x.op,.int .i64 x.n,.slice ov lv cv,.slice ot lt ct] 26)
 have HC:=Lib.hid (uses_any x _ _ _ _ v w.heap.size (w.alloc (.cells #[.int .i64 x.op,.int .i64 x.n,.slice ov lv cv,.slice ot lt ct] 26)) (TrmR.wider hB _ _ (TrmR.kept (hb1.mono hB) _ _ hx)) hb1.size ha hn)
 rw[Trm.refs_named]
 obtain ⟨r,hr⟩:∃r,Trm.refs v x.pre=r:=⟨_,rfl⟩
 rw[hr] at HC ⊢
 have HB:=Lib.hid hb1
 have hd:decide ((0:Int)<(r:Int))=decide (0<r):=by simp
 clear hx hb1 hr
 go_enter Tryz.func43,Tryz.ntmps43
 go_wp2_with fail
 refine HC.out.mono ?_
 rintro e w2 ⟨⟨k,rfl⟩,hb2⟩
 have HB2:=Lib.hid (HB.out.trans (hb2.mono HB.out.size))
 clear hb2
 go_wp2_with fail
 go_ret
 exact ⟨by simp,HB2.out⟩
end
section
open Go Go.RowKit
def EndPostS (S:Nat→Prop) (B2:Nat) (r:Dat × Int) (w:World) (e:Ending) (w':World):Prop:=∃(k n d:Int) (s:ByteArray) (o:Option Addr) (len cap:Nat),e=.returned (.tuple #[.agg #[.int .i64 k,.int .i64 n,.int .i64 d,.string s,.slice o len cap],.int .i64 r.2])∧RepD (hide w' S) B2 r.1 (.agg #[.int .i64 k,.int .i64 n,.int .i64 d,.string s,.slice o len cap])∧Below w.heap.size w w'
theorem endPostS_leaf {S:Nat→Prop} {B2:Nat} {x:Dat} {e k n d:Int} {w w':World} (hk:-9223372036854775808≤k∧k≤9223372036854775807) (hn:-9223372036854775808≤n∧n≤9223372036854775807) (hd:-9223372036854775808≤d∧d≤9223372036854775807) (hx:x=.mk k n d ⟨#[]⟩ []) (hb:Below w.heap.size w w'):EndPostS S B2 (x,e) w (.returned (.tuple #[leafV k n d,.int .i64 e])) w':=
 ⟨k,n,d,⟨#[]⟩,none,0,0,rfl,by rw[hx];exact rep_leaf k n d ⟨#[]⟩ hk hn hd (by decide),hb⟩
def FoldPostS (S:Nat→Prop) (B2:Nat) (r:Dat × Int × Bool) (w:World) (e:Ending) (w':World):Prop:=∃(k n d:Int) (s:ByteArray) (o:Option Addr) (len cap:Nat),e=.returned (.tuple #[.agg #[.int .i64 k,.int .i64 n,.int .i64 d,.string s,.slice o len cap],.int .i64 r.2.1,.bool r.2.2])∧RepD (hide w' S) B2 r.1 (.agg #[.int .i64 k,.int .i64 n,.int .i64 d,.string s,.slice o len cap])∧Below w.heap.size w w'
theorem foldPostS_leaf {S:Nat→Prop} {B2:Nat} {x:Dat} {e k n d:Int} {b:Bool} {w w':World} (hk:-9223372036854775808≤k∧k≤9223372036854775807) (hn:-9223372036854775808≤n∧n≤9223372036854775807) (hd:-9223372036854775808≤d∧d≤9223372036854775807) (hx:x=.mk k n d ⟨#[]⟩ []) (hb:Below w.heap.size w w'):FoldPostS S B2 (x,e,b) w (.returned (.tuple #[leafV k n d,.int .i64 e,.bool b])) w':=
 ⟨k,n,d,⟨#[]⟩,none,0,0,rfl,by rw[hx];exact rep_leaf k n d ⟨#[]⟩ hk hn hd (by decide),hb⟩
theorem at_anyS (S:Nat→Prop) (x y:Dat) (v u:Value) (B:Nat) (w:World) (hv:RepD (hide w S) B x v) (hu:RepD (hide w S) B y u) :
  ∃(k n d:Int) (s:ByteArray) (o:Option Addr) (len cap:Nat),RepD (hide w S) B (Prims.at' x y).1 (.agg #[.int .i64 k,.int .i64 n,.int .i64 d,.string s,.slice o len cap])∧∀W,Below w.heap.size w W →
   Calls Tryz.prog 120 #[v,u] W fun e w'=>e=.returned (.tuple #[.agg #[.int .i64 k,.int .i64 n,.int .i64 d,.string s,.slice o len cap],.int .i64 (Prims.at' x y).2])∧Below W.heap.size W w':=by
 obtain ⟨kx,nx,dx,sx,lx⟩:=x
 obtain ⟨ky,ny,dy,sy,ly⟩:=y
 obtain ⟨sl,rfl,_,_,_,_,hs⟩:=hv.open
 obtain ⟨sm,rfl,_,bn,bd,_,hsm⟩:=hu.open
 have HS:=Lib.hid hs
 obtain ⟨o,len,cap,rfl,hl,hcap,hmax⟩:=slice_at hs
 obtain ⟨om,lenm,capm,rfl,hlm⟩:=slice_at hsm
 have HV:=Lib.hid hv
 have HU:=Lib.hid hu
 have HL:=Lib.hid hl
 clear hlm hsm hs hv hu hl
 by_cases hb:kx≠7∨ky≠0
 ·have h1:Prims.at' (.mk kx nx dx sx lx) (.mk ky ny dy sy ly)=(Prims.zeroD,1):=by rw[Prims.at',if_pos (show (Dat.mk kx nx dx sx lx).kind≠7∨(Dat.mk ky ny dy sy ly).kind≠0 from hb)]
  rcases (by omega:kx≠7∨(kx=7∧ky≠0)) with hk | ⟨rfl,hk⟩
  all_goals have hk':=hk
  ·have k7:(kx != 7)=true:=by simpa using hk
   refine ⟨0,0,0,⟨#[]⟩,none,0,0,by rw[h1];exact zero_rep _ _,fun W hW=>?_⟩
   rw[h1]
   have HK:=Lib.hid (fun X Y Z=>(((Below.refl W.heap.size W).alloc (Nat.le_refl _) X).alloc (by simp) Y).alloc (by simp;omega) Z)
   clear h1 HS HV HU hb
   go_enter Tryz.func120,Tryz.ntmps120
   go_wp2_with fail
   exact bodyPost_ret (v:=.tuple #[leafV 0 0 0,.int .i64 1]) (by simp[results,Tryz.results120,go_sem,leafV]) rfl ⟨rfl,HK.out _ _ _⟩
  ·have k0:(ky != 0)=true:=by simpa using hk
   refine ⟨0,0,0,⟨#[]⟩,none,0,0,by rw[h1];exact zero_rep _ _,fun W hW=>?_⟩
   rw[h1]
   have HK:=Lib.hid (fun X Y Z=>(((Below.refl W.heap.size W).alloc (Nat.le_refl _) X).alloc (by simp) Y).alloc (by simp;omega) Z)
   clear h1 HS HV HU hb
   go_enter Tryz.func120,Tryz.ntmps120
   go_wp2_with fail
   exact bodyPost_ret (v:=.tuple #[leafV 0 0 0,.int .i64 1]) (by simp[results,Tryz.results120,go_sem,leafV]) rfl ⟨rfl,HK.out _ _ _⟩
 obtain ⟨rfl,rfl⟩:kx=7∧ky=0:=by omega
 by_cases hc:dy≠1∨ny<0∨(len:Int)≤ny
 ·have h1:Prims.at' (.mk 7 nx dx sx lx) (.mk 0 ny dy sy ly)=(Prims.zeroD,3):=by
   rw[Prims.at',if_neg (show ¬((Dat.mk 7 nx dx sx lx).kind≠7∨(Dat.mk 0 ny dy sy ly).kind≠0) from hb),if_pos (by show dy≠1∨ny<0∨(lx.length:Int)≤ny;rw[←HL.out];exact hc)]
  clear hb
  rcases (by omega:dy≠1∨(dy=1∧ny<0)∨(dy=1∧0≤ny∧(len:Int)≤ny)) with hk | ⟨rfl,hk⟩ | ⟨rfl,hk0,hk⟩
  ·have k7:(dy != 1)=true:=by simpa using hk
   refine ⟨0,0,0,⟨#[]⟩,none,0,0,by rw[h1];exact zero_rep _ _,fun W hW=>?_⟩
   rw[h1]
   have HK:=Lib.hid (fun X Y Z=>(((Below.refl W.heap.size W).alloc (Nat.le_refl _) X).alloc (by simp) Y).alloc (by simp;omega) Z)
   clear h1 HS HV HU
   go_enter Tryz.func120,Tryz.ntmps120
   go_wp2_with fail
   exact bodyPost_ret (v:=.tuple #[leafV 0 0 0,.int .i64 3]) (by simp[results,Tryz.results120,go_sem,leafV]) rfl ⟨rfl,HK.out _ _ _⟩
  ·have k7:decide (ny<0)=true:=by simpa using hk
   refine ⟨0,0,0,⟨#[]⟩,none,0,0,by rw[h1];exact zero_rep _ _,fun W hW=>?_⟩
   rw[h1]
   have HK:=Lib.hid (fun X Y Z=>(((Below.refl W.heap.size W).alloc (Nat.le_refl _) X).alloc (by simp) Y).alloc (by simp;omega) Z)
   clear h1 HS HV HU
   go_enter Tryz.func120,Tryz.ntmps120
   go_wp2_with fail
   exact bodyPost_ret (v:=.tuple #[leafV 0 0 0,.int .i64 3]) (by simp[results,Tryz.results120,go_sem,leafV]) rfl ⟨rfl,HK.out _ _ _⟩
  ·have k7:decide (ny<0)=false:=by simpa using hk0
   have k8:decide ((len:Int)≤ny)=true:=by simpa using hk
   refine ⟨0,0,0,⟨#[]⟩,none,0,0,by rw[h1];exact zero_rep _ _,fun W hW=>?_⟩
   rw[h1]
   have HK:=Lib.hid (fun X Y Z=>(((Below.refl W.heap.size W).alloc (Nat.le_refl _) X).alloc (by simp) Y).alloc (by simp;omega) Z)
   clear h1 HS HV HU
   go_enter Tryz.func120,Tryz.ntmps120
   go_wp2_with fail
   exact bodyPost_ret (v:=.tuple #[leafV 0 0 0,.int .i64 3]) (by simp[results,Tryz.results120,go_sem,leafV]) rfl ⟨rfl,HK.out _ _ _⟩
 ·obtain ⟨rfl,hn0,hn1⟩:dy=1∧0≤ny∧ny<(len:Int):=by omega
  obtain ⟨j,rfl⟩:∃j:Nat,ny=j:=⟨ny.toNat,by omega⟩
  have hjl:j<len:=by omega
  obtain ⟨z,hz⟩:∃z,lx[j]?=some z:=⟨_,List.getElem?_eq_getElem (by rw[←HL.out];exact hjl)⟩
  have h1:Prims.at' (.mk 7 nx dx sx lx) (.mk 0 j 1 sy ly)=(z,0):=by
   rw[Prims.at',if_neg (show ¬((Dat.mk 7 nx dx sx lx).kind≠7∨(Dat.mk 0 (j:Int) 1 sy ly).kind≠0) from hb),if_neg (by show ¬((1:Int)≠1∨(j:Int)<0∨(lx.length:Int)≤j);rw[←HL.out];omega)]
   show (lx.getD (j:Int).toNat Prims.zeroD,(0:Int))=(z,0)
   rw[Int.toNat_natCast,List.getD_eq_getElem?_getD,hz];rfl
  rw[h1]
  obtain ⟨b1,off1,k1,n1,d1,s1,l1,o1,len1,cap1,ho1,hx1,f0,f1,f2,f3,f4,fr⟩:=part_atS HS.out (Below.refl _ _) hz
  subst ho1 hx1
  have FR:=Lib.hid fr
  refine ⟨k1,n1,d1,s1,o1,len1,cap1,FR.out,fun W hW=>?_⟩
  have q0:=(hW.cell (p:=⟨b1,off1+j*5,none⟩) (cell_lt (hide_some f0).2)).trans (hide_some f0).2
  have q1:=(hW.cell (p:=⟨b1,off1+j*5+1,none⟩) (cell_lt (hide_some f1).2)).trans (hide_some f1).2
  have q2:=(hW.cell (p:=⟨b1,off1+j*5+2,none⟩) (cell_lt (hide_some f2).2)).trans (hide_some f2).2
  have q3:=(hW.cell (p:=⟨b1,off1+j*5+3,none⟩) (cell_lt (hide_some f3).2)).trans (hide_some f3).2
  have q4:=(hW.cell (p:=⟨b1,off1+j*5+4,none⟩) (cell_lt (hide_some f4).2)).trans (hide_some f4).2
  have hbl:=cell_lt q0
  have hbl1:b1<W.heap.size+1:=by omega
  have hbl2:b1<W.heap.size+1+1:=by omega
  have hbl3:b1<W.heap.size+2:=by omega
  have k7:decide ((j:Int)<0)=false:=by simp
  have k8:decide ((len:Int)≤(j:Int))=false:=by simp;omega
  have HK:=Lib.hid (fun X Y Z=>(((Below.refl W.heap.size W).alloc (Nat.le_refl _) X).alloc (by simp) Y).alloc (by simp;omega) Z)
  clear h1 HS HV HU hb hc hz f0 f1 f2 f3 f4 fr FR hW
  go_enter Tryz.func120,Tryz.ntmps120
  go_wp2_with fail
  exact bodyPost_ret (v:=.tuple #[.agg #[.int .i64 k1,.int .i64 n1,.int .i64 d1,.string s1,.slice o1 len1 cap1],.int .i64 0]) (by simp[results,Tryz.results120,go_sem]) rfl ⟨rfl,HK.out _ _ _⟩
theorem does_18S (S:Nat→Prop) (l:List Dat) (sl:Value) (B:Nat) (w:World) (hv:RepS (hide w S) B l sl) (hr:∀x∈l,Dat.right x 0=true) (hl:l.length=1) :
  Calls Tryz.prog 100 #[.int .i64 18,sl] w (EndPostS S B (Prims.does 18 l) w):=by
 obtain ⟨x,rfl⟩:∃x,l=[x]:=by
  match l,hl with
  | [x],_=>exact ⟨x,rfl⟩
 have hrx:=hr x (by simp)
 obtain ⟨o,len,cap,rfl,hlen,hcap,hmax⟩:=slice_of hv
 obtain rfl:len=1:=hlen
 obtain ⟨b,off,k,n,d,s,l',o',len',cap',ho,hx,e0,e1,e2,e3,e4,er⟩:=part_atS hv (Below.refl _ _) (j:=0) rfl
 subst ho hx
 replace e0:=(hide_some e0).2
 replace e1:=(hide_some e1).2
 replace e2:=(hide_some e2).2
 replace e3:=(hide_some e3).2
 replace e4:=(hide_some e4).2
 simp only[Nat.zero_mul,Nat.add_zero] at e0 e1 e2 e3 e4
 have hbl:=cell_lt e0
 have ER:=Lib.hid er
 obtain ⟨R,hR⟩:∃R,Prims.does 18 [Dat.mk k n d s l']=R:=⟨_,rfl⟩
 rw[hR]
 have HK:=Lib.hid (fun X Y=>((Below.refl w.heap.size w).alloc (Nat.le_refl _) X).alloc (by simp) Y)
 by_cases k6:k=6
 ·subst k6
  obtain ⟨_,a,c,rfl,rfl,rfl,rfl,_,_⟩:=right_pair_at hrx
  have HR:=Lib.hid (show (a,(0:Int))=R by rw[←hR];simp[Prims.does,Dat.kind,Dat.l])
  clear hR hv er
  obtain ⟨sl,hv2,_,_,_,_,hs⟩:=ER.out.open
  simp only[Value.agg.injEq,Array.mk.injEq,List.cons.injEq,and_true,true_and] at hv2
  obtain rfl:=hv2
  have hl2:len'=2:=by obtain ⟨_,_,_,he,h2,_⟩:=hs;simp only[Value.slice.injEq] at he;rw[he.2.1,h2];rfl
  subst hl2
  obtain ⟨b1,off1,k1,n1,d1,s1,l1,o1,len1,cap1,ho1,hx1,f0,f1,f2,f3,f4,fr⟩:=part_atS hs (Below.refl _ _) (j:=0) rfl
  subst ho1
  replace f0:=(hide_some f0).2
  replace f1:=(hide_some f1).2
  replace f2:=(hide_some f2).2
  replace f3:=(hide_some f3).2
  replace f4:=(hide_some f4).2
  simp only[Nat.zero_mul,Nat.add_zero] at f0 f1 f2 f3 f4
  have hbl1:=cell_lt f0
  have FR:=Lib.hid fr
  have HX1:=Lib.hid hx1
  clear hs fr hx1
  go_enter Tryz.func100,Tryz.ntmps100
  go_wp2_with fail
  rw[←HR.out]
  refine bodyPost_ret (v:=.tuple #[.agg #[.int .i64 k1,.int .i64 n1,.int .i64 d1,.string s1,.slice o1 len1 cap1],.int .i64 0]) (by simp[results,Tryz.results100,go_sem]) rfl ⟨k1,n1,d1,s1,o1,len1,cap1,rfl,by rw[HX1.out];exact FR.out.shown (Shown.below (HK.out _ _)) (Nat.le_refl _),HK.out _ _⟩
 ·have k6':(k != 6)=true:=by simpa using k6
  have HR:=Lib.hid (show (Prims.zeroD,(1:Int))=R by rw[←hR];simp[Prims.does,Dat.kind,k6])
  clear hR hv er
  go_enter Tryz.func100,Tryz.ntmps100
  go_wp2_with fail
  rw[←HR.out]
  exact bodyPost_ret (v:=.tuple #[leafV 0 0 0,.int .i64 1]) (by simp[results,Tryz.results100,go_sem,leafV]) rfl (endPostS_leaf (by omega) (by omega) (by omega) rfl (HK.out _ _))
theorem does_19S (S:Nat→Prop) (l:List Dat) (sl:Value) (B:Nat) (w:World) (hv:RepS (hide w S) B l sl) (hr:∀x∈l,Dat.right x 0=true) (hl:l.length=1) :
  Calls Tryz.prog 100 #[.int .i64 19,sl] w (EndPostS S B (Prims.does 19 l) w):=by
 obtain ⟨x,rfl⟩:∃x,l=[x]:=by
  match l,hl with
  | [x],_=>exact ⟨x,rfl⟩
 have hrx:=hr x (by simp)
 obtain ⟨o,len,cap,rfl,hlen,hcap,hmax⟩:=slice_of hv
 obtain rfl:len=1:=hlen
 obtain ⟨b,off,k,n,d,s,l',o',len',cap',ho,hx,e0,e1,e2,e3,e4,er⟩:=part_atS hv (Below.refl _ _) (j:=0) rfl
 subst ho hx
 replace e0:=(hide_some e0).2
 replace e1:=(hide_some e1).2
 replace e2:=(hide_some e2).2
 replace e3:=(hide_some e3).2
 replace e4:=(hide_some e4).2
 simp only[Nat.zero_mul,Nat.add_zero] at e0 e1 e2 e3 e4
 have hbl:=cell_lt e0
 have ER:=Lib.hid er
 obtain ⟨R,hR⟩:∃R,Prims.does 19 [Dat.mk k n d s l']=R:=⟨_,rfl⟩
 rw[hR]
 have HK:=Lib.hid (fun X Y=>((Below.refl w.heap.size w).alloc (Nat.le_refl _) X).alloc (by simp) Y)
 by_cases k6:k=6
 ·subst k6
  obtain ⟨_,a,c,rfl,rfl,rfl,rfl,_,_⟩:=right_pair_at hrx
  have HR:=Lib.hid (show (c,(0:Int))=R by rw[←hR];simp[Prims.does,Dat.kind,Dat.l])
  clear hR hv er
  obtain ⟨sl,hv2,_,_,_,_,hs⟩:=ER.out.open
  simp only[Value.agg.injEq,Array.mk.injEq,List.cons.injEq,and_true,true_and] at hv2
  obtain rfl:=hv2
  have hl2:len'=2:=by obtain ⟨_,_,_,he,h2,_⟩:=hs;simp only[Value.slice.injEq] at he;rw[he.2.1,h2];rfl
  subst hl2
  obtain ⟨b1,off1,k1,n1,d1,s1,l1,o1,len1,cap1,ho1,hx1,f0,f1,f2,f3,f4,fr⟩:=part_atS hs (Below.refl _ _) (j:=1) rfl
  subst ho1
  replace f0:=(hide_some f0).2
  replace f1:=(hide_some f1).2
  replace f2:=(hide_some f2).2
  replace f3:=(hide_some f3).2
  replace f4:=(hide_some f4).2
  simp only[Nat.one_mul,Nat.add_assoc,Nat.reduceAdd] at f0 f1 f2 f3 f4
  have hbl1:=cell_lt f0
  have FR:=Lib.hid fr
  have HX1:=Lib.hid hx1
  clear hs fr hx1
  go_enter Tryz.func100,Tryz.ntmps100
  go_wp2_with fail
  rw[←HR.out]
  refine bodyPost_ret (v:=.tuple #[.agg #[.int .i64 k1,.int .i64 n1,.int .i64 d1,.string s1,.slice o1 len1 cap1],.int .i64 0]) (by simp[results,Tryz.results100,go_sem]) rfl ⟨k1,n1,d1,s1,o1,len1,cap1,rfl,by rw[HX1.out];exact FR.out.shown (Shown.below (HK.out _ _)) (Nat.le_refl _),HK.out _ _⟩
 ·have k6':(k != 6)=true:=by simpa using k6
  have HR:=Lib.hid (show (Prims.zeroD,(1:Int))=R by rw[←hR];simp[Prims.does,Dat.kind,k6])
  clear hR hv er
  go_enter Tryz.func100,Tryz.ntmps100
  go_wp2_with fail
  rw[←HR.out]
  exact bodyPost_ret (v:=.tuple #[leafV 0 0 0,.int .i64 1]) (by simp[results,Tryz.results100,go_sem,leafV]) rfl (endPostS_leaf (by omega) (by omega) (by omega) rfl (HK.out _ _))
theorem does_22S (S:Nat→Prop) (l:List Dat) (sl:Value) (B:Nat) (w:World) (hv:RepS (hide w S) B l sl) (hr:∀x∈l,Dat.right x 0=true) (hl:l.length=2) :
  Calls Tryz.prog 100 #[.int .i64 22,sl] w (EndPostS S B (Prims.does 22 l) w):=by
 obtain ⟨x,y,rfl⟩:∃x y,l=[x,y]:=by
  match l,hl with
  | [x,y],_=>exact ⟨x,y,rfl⟩
 have hrx:=hr x (by simp)
 have hry:=hr y (by simp)
 obtain ⟨o,len,cap,rfl,hlen,hcap,hmax⟩:=slice_of hv
 obtain rfl:len=2:=hlen
 obtain ⟨b,off,k,n,d,s,l',o',len',cap',ho,hx,e0,e1,e2,e3,e4,er⟩:=part_atS hv (Below.refl _ _) (j:=0) rfl
 subst ho hx
 obtain ⟨b2,off2,k2,n2,d2,s2,l2,o2,len2,cap2,ho2,hy,f0,f1,f2,f3,f4,fr⟩:=part_atS hv (Below.refl _ _) (j:=1) rfl
 simp only[Option.some.injEq,Addr.mk.injEq,and_true] at ho2
 obtain ⟨rfl,rfl⟩:=ho2
 subst hy
 replace f0:=(hide_some f0).2
 replace f1:=(hide_some f1).2
 replace f2:=(hide_some f2).2
 replace f3:=(hide_some f3).2
 replace f4:=(hide_some f4).2
 simp only[Nat.one_mul,Nat.add_assoc,Nat.reduceAdd] at f0 f1 f2 f3 f4
 have FR:=Lib.hid fr
 replace e0:=(hide_some e0).2
 replace e1:=(hide_some e1).2
 replace e2:=(hide_some e2).2
 replace e3:=(hide_some e3).2
 replace e4:=(hide_some e4).2
 simp only[Nat.zero_mul,Nat.add_zero] at e0 e1 e2 e3 e4
 have hbl:=cell_lt e0
 have ER:=Lib.hid er
 have HRX:=Lib.hid hrx
 have HRY:=Lib.hid hry
 obtain ⟨R,hR⟩:∃R,Prims.does 22 [Dat.mk k n d s l',Dat.mk k2 n2 d2 s2 l2]=R:=⟨_,rfl⟩
 rw[hR]
 have HK:=Lib.hid (fun X Y=>((Below.refl w.heap.size w).alloc (Nat.le_refl _) X).alloc (by simp) Y)
 have HV:=Lib.hid hv
 clear hv er hrx hr hl fr hry
 obtain ⟨kq,nq,dq,sq,oq,lenq,capq,hrep,hat⟩:=at_anyS S (.mk k n d s l') (.mk k2 n2 d2 s2 l2) _ _ B w ER.out FR.out
 obtain ⟨⟨Rq,zq⟩,hq⟩:∃q,Prims.at' (.mk k n d s l') (.mk k2 n2 d2 s2 l2)=q:=⟨_,rfl⟩
 rw[hq] at hrep hat
 have HREP:=Lib.hid hrep
 have HAT:=Lib.hid hat
 have HR:=Lib.hid (show (Rq,zq)=R by rw[←hR,←hq];simp[Prims.does])
 clear hR hq hrep hat
 go_enter Tryz.func100,Tryz.ntmps100
 have HN:=Lib.hid (ClsA.new w (.int .i64 k) (.int .i64 n) (.int .i64 d) (.string s) (.slice o' len' cap')).drew
 go_wp2_with fail
 refine wp_region_quiet_class (ClsA w (.int .i64 k) (.int .i64 n) (.int .i64 d) (.string s) (.slice o' len' cap')) 7 (by kernel_rfl) (by kernel_rfl) HN.out ?_
 intro T0 _ W HW HW2
 have g0:∀t,(W t).cell? _=_:=fun t=>(HW t).2.2.1.cells.1
 have g1:∀t,(W t).cell? _=_:=fun t=>(HW t).2.2.1.cells.2.1
 have g2:∀t,(W t).cell? _=_:=fun t=>(HW t).2.2.1.cells.2.2.1
 have g3:∀t,(W t).cell? _=_:=fun t=>(HW t).2.2.1.cells.2.2.2.1
 have g4:∀t,(W t).cell? _=_:=fun t=>(HW t).2.2.1.cells.2.2.2.2
 have j0:∀t,(W t).cell? _=_:=fun t=>((HW t).1.cell (p:=⟨b,off+5,none⟩) hbl).trans f0
 have j1:∀t,(W t).cell? _=_:=fun t=>((HW t).1.cell (p:=⟨b,off+6,none⟩) hbl).trans f1
 have j2:∀t,(W t).cell? _=_:=fun t=>((HW t).1.cell (p:=⟨b,off+7,none⟩) hbl).trans f2
 have j3:∀t,(W t).cell? _=_:=fun t=>((HW t).1.cell (p:=⟨b,off+8,none⟩) hbl).trans f3
 have j4:∀t,(W t).cell? _=_:=fun t=>((HW t).1.cell (p:=⟨b,off+9,none⟩) hbl).trans f4
 have HC0:Hid (∀t,Calls Tryz.prog 120 #[.agg #[.int .i64 k,.int .i64 n,.int .i64 d,.string s,.slice o' len' cap'],.agg #[.int .i64 k2,.int .i64 n2,.int .i64 d2,.string s2,.slice o2 len2 cap2]] (W t) fun e w'=>e=.returned (.tuple #[.agg #[.int .i64 kq,.int .i64 nq,.int .i64 dq,.string sq,.slice oq lenq capq],.int .i64 zq])∧∃t',w'=W t'):=Lib.hid (fun t=>(HAT.out (W t) (HW t).1).mono fun e w' h=>⟨h.1,HW2 _ ((HW t).next h.2)⟩)
 have HWH:=Lib.hid HW
 clear HW HW2
 simp only[List.take_succ_cons,List.take_zero,List.drop_succ_cons,List.drop_zero]
 repeat (go_big_quiet_step (first | (go_at_call 120;exact HC0.out _)))
 refine wpQuiet_nil ?_
 intro t
 have hbox:=(HWH.out t).2.1
 obtain ⟨q0,q1,q2,q3,q4⟩:=hbox.cells
 obtain ⟨z0,z1,z2,z3,z4⟩:=hbox.free
 have hlt:=hbox.lt
 obtain ⟨r0,r1,r2,r3,r4⟩:=(hbox.set (.int .i64 kq) (.int .i64 nq) (.int .i64 dq) (.string sq) (.slice oq lenq capq)).cells
 have HBF:=Lib.hid ((HWH.out t).1.trans (set5_below (W t) w.heap.size w.heap.size (.int .i64 kq) (.int .i64 nq) (.int .i64 dq) (.string sq) (.slice oq lenq capq) (Nat.le_refl _)))
 clear g0 g1 g2 g3 g4
 go_wp2_with fail
 rw[←HR.out]
 exact bodyPost_ret (v:=.tuple #[.agg #[.int .i64 kq,.int .i64 nq,.int .i64 dq,.string sq,.slice oq lenq capq],.int .i64 zq]) (by simp[results,Tryz.results100,go_sem,r0,r1,r2,r3,r4]) rfl ⟨kq,nq,dq,sq,oq,lenq,capq,rfl,HREP.out.shown (Shown.below HBF.out) (Nat.le_refl _),HBF.out⟩
theorem fold_ofS (S:Nat→Prop) (n:Int) (h0:-9223372036854775808≤n) (h1:n≤9223372036854775807) (l:List Dat) (sl:Value) (B:Nat) (w:World) (hvS:RepS (hide w S) B l sl) (hB:B≤w.heap.size)
  (hD:(∀x∈l,Dat.right x 0=true)→Prims.takes n l.length=true→Prims.has n=true→(Prims.facts n).folds=true→∀W,Below w.heap.size w W→Calls Tryz.prog 100 #[.int .i64 n,sl] W (EndPostS S w.heap.size (Prims.does n l) W)) :
  Calls Tryz.prog 71 #[.int .i64 n,sl] w (FoldPostS S w.heap.size (Prims.fold n l) w):=by
 obtain ⟨o,len,cap,rfl,hl,hcap,hmax,hc⟩:=hvS.unhide.wider hB
 obtain ⟨b,hb⟩:∃b,Prims.has n=b:=⟨_,rfl⟩
 obtain ⟨F,hF⟩:∃F,Prims.facts n=F:=⟨_,rfl⟩
 obtain ⟨f0,f1,f2,f3,f4⟩:=F
 obtain ⟨r,hr⟩:∃r,(l.any fun x=>!Dat.right x 0)=r:=⟨_,rfl⟩
 obtain ⟨t,ht⟩:∃t,Prims.takes n l.length=t:=⟨_,rfl⟩
 obtain ⟨R,hR⟩:∃R,Prims.fold n l=R:=⟨_,rfl⟩
 rw[hR]
 have hall:(l.all fun x=>Dat.right x 0) = !r:=by rw[←hr,List.not_any_eq_all_not];simp
 unfold Prims.fold at hR
 rw[hb,hF,hall,ht] at hR
 dsimp only at hR
 rw[hb,hF,ht] at hD
 have HD:=Lib.hid hD
 have HR:=Lib.hid hR
 have HFC:=Lib.hid (fun W=>facts_to n f0 f1 f2 f3 f4 b hF hb h0 h1 W)
 have HTC:=Lib.hid (fun W=>takes_any n l.length h0 h1 W)
 rw[ht,←hl] at HTC
 have HAL:=Lib.hid (show r=false→∀x∈l,Dat.right x 0=true from fun h=>by
  rw[h] at hall
  exact fun x hx=>List.all_eq_true.1 hall x hx)
 have HCF:=Lib.hid (fun W (hb:Below w.heap.size w W)=>containsFunc_any 98 #[] (fun x=>!Dat.right x 0) r l o len cap w.heap.size W hl hcap hmax (by
   cases o with
   | none=>exact hc
   | some a=>exact ⟨fun h=>hc.1 h,if h:l=[] then by rw[h,RepC];trivial else hc.2.kept (hc.1 h).2 hb⟩) hb.size (fun args w=>Tryz.call98 args w) (fun x _ v w' hx hw=>fold1_any x v w.heap.size w' hx (Nat.le_trans hb.size hw.size)) hr)
 clear hc hR hvS hF hb hr ht hall hD hl
 have HK:=Lib.hid (fun X=>(Below.refl w.heap.size w).alloc (Nat.le_refl _) X)
 go_enter Tryz.func71,Tryz.ntmps71
 go_wp2_with fail
 refine (HFC.out _).mono ?_
 rintro e1 w1 ⟨rfl,hb1⟩
 have HX1:=Lib.hid (show Box5 w1 w.heap.size 45 (.int .i64 0) (.int .i64 0) (.int .i64 0) (.string ⟨#[]⟩) (.slice none 0 0) from (hb1.block _ (by simp)).trans (Box5.new w _ _ _ _ _ _))
 have HB1:=Lib.hid (one_below hb1)
 have hs1:=HB1.out.size
 clear hb1
 cases b with
 | false=>
  obtain ⟨q0,q1,q2,q3,q4⟩:=HX1.out.cells
  obtain ⟨z0,z1,z2,z3,z4⟩:=HX1.out.free
  have hlt:=HX1.out.lt
  obtain ⟨r0,r1,r2,r3,r4⟩:=(HX1.out.set (.int .i64 0) (.int .i64 0) (.int .i64 0) (.string ⟨#[]⟩) (.slice none 0 0)).cells
  have hR2:=HR.out
  have HBF:=Lib.hid (HB1.out.trans (set5_below w1 w.heap.size w.heap.size (.int .i64 0) (.int .i64 0) (.int .i64 0) (.string ⟨#[]⟩) (.slice none 0 0) (Nat.le_refl _)))
  obtain rfl:(Prims.zeroD,(0:Int),false)=R:=by rw[←hR2];simp
  clear hR2 HR
  go_wp2_with fail
  refine bodyPost_ret (v:=.tuple #[leafV 0 0 0,.int .i64 0,.bool false]) (by simp[results,Tryz.results71,go_sem,leafV,r0,r1,r2,r3,r4,hlt]) rfl (foldPostS_leaf (by omega) (by omega) (by omega) rfl ?_)
  first | exact HBF.out | exact HBF.out.alloc (by simp;omega) _ | fail
 | true=>
  cases f4 with
  | false=>
   obtain ⟨q0,q1,q2,q3,q4⟩:=HX1.out.cells
   obtain ⟨z0,z1,z2,z3,z4⟩:=HX1.out.free
   have hlt:=HX1.out.lt
   obtain ⟨r0,r1,r2,r3,r4⟩:=(HX1.out.set (.int .i64 0) (.int .i64 0) (.int .i64 0) (.string ⟨#[]⟩) (.slice none 0 0)).cells
   have hR2:=HR.out
   have HBF:=Lib.hid (HB1.out.trans (set5_below w1 w.heap.size w.heap.size (.int .i64 0) (.int .i64 0) (.int .i64 0) (.string ⟨#[]⟩) (.slice none 0 0) (Nat.le_refl _)))
   obtain rfl:(Prims.zeroD,(0:Int),false)=R:=by rw[←hR2];simp
   clear hR2 HR
   go_wp2_with fail
   refine bodyPost_ret (v:=.tuple #[leafV 0 0 0,.int .i64 0,.bool false]) (by simp[results,Tryz.results71,go_sem,leafV,r0,r1,r2,r3,r4,hlt]) rfl (foldPostS_leaf (by omega) (by omega) (by omega) rfl ?_)
   first | exact HBF.out | exact HBF.out.alloc (by simp;omega) _ | fail
  | true=>
   have hlt1:=HX1.out.lt
   go_wp2_with fail
   refine (HCF.out _ (HB1.out.alloc hs1 _)).mono ?_
   rintro e1 w2 ⟨rfl,hb2⟩
   have HX2:=Lib.hid (show Box5 w2 w.heap.size 45 (.int .i64 0) (.int .i64 0) (.int .i64 0) (.string ⟨#[]⟩) (.slice none 0 0) from (hb2.block _ (by simp;omega)).trans (HX1.out.alloc _))
   have HB2:=Lib.hid (Below.next (HB1.out.alloc hs1 _) hb2)
   have hs2:=HB2.out.size
   clear hb2 hlt1
   cases r with
   | true=>
    obtain ⟨q0,q1,q2,q3,q4⟩:=HX2.out.cells
    obtain ⟨z0,z1,z2,z3,z4⟩:=HX2.out.free
    have hlt:=HX2.out.lt
    obtain ⟨r0,r1,r2,r3,r4⟩:=(HX2.out.set (.int .i64 0) (.int .i64 0) (.int .i64 0) (.string ⟨#[]⟩) (.slice none 0 0)).cells
    have hR2:=HR.out
    have HBF:=Lib.hid (HB2.out.trans (set5_below w2 w.heap.size w.heap.size (.int .i64 0) (.int .i64 0) (.int .i64 0) (.string ⟨#[]⟩) (.slice none 0 0) (Nat.le_refl _)))
    obtain rfl:(Prims.zeroD,(0:Int),false)=R:=by rw[←hR2];simp
    clear hR2 HR
    go_wp2_with fail
    refine bodyPost_ret (v:=.tuple #[leafV 0 0 0,.int .i64 0,.bool false]) (by simp[results,Tryz.results71,go_sem,leafV,r0,r1,r2,r3,r4]) rfl (foldPostS_leaf (by omega) (by omega) (by omega) rfl ?_)
    first | exact HBF.out | exact HBF.out.alloc (by simp;omega) _ | fail
   | false=>
    go_wp2_with fail
    refine (HTC.out _).mono ?_
    rintro e1 w3 ⟨rfl,hb3⟩
    have HX3:=Lib.hid (show Box5 w3 w.heap.size 45 (.int .i64 0) (.int .i64 0) (.int .i64 0) (.string ⟨#[]⟩) (.slice none 0 0) from (hb3.block _ HX2.out.lt).trans HX2.out)
    have HB3:=Lib.hid (Below.next HB2.out hb3)
    have hs3:=HB3.out.size
    clear hb3
    cases t with
    | false=>
     obtain ⟨q0,q1,q2,q3,q4⟩:=HX3.out.cells
     obtain ⟨z0,z1,z2,z3,z4⟩:=HX3.out.free
     have hlt:=HX3.out.lt
     obtain ⟨r0,r1,r2,r3,r4⟩:=(HX3.out.set (.int .i64 0) (.int .i64 0) (.int .i64 0) (.string ⟨#[]⟩) (.slice none 0 0)).cells
     have hR2:=HR.out
     have HBF:=Lib.hid (HB3.out.trans (set5_below w3 w.heap.size w.heap.size (.int .i64 0) (.int .i64 0) (.int .i64 0) (.string ⟨#[]⟩) (.slice none 0 0) (Nat.le_refl _)))
     obtain rfl:(Prims.zeroD,(2:Int),true)=R:=by rw[←hR2];simp
     clear hR2 HR
     go_wp2_with fail
     refine bodyPost_ret (v:=.tuple #[leafV 0 0 0,.int .i64 2,.bool true]) (by simp[results,Tryz.results71,go_sem,leafV,r0,r1,r2,r3,r4]) rfl (foldPostS_leaf (by omega) (by omega) (by omega) rfl ?_)
     first | exact HBF.out | exact HBF.out.alloc (by simp;omega) _ | fail
    | true=>
     have hR2:=HR.out
     obtain rfl:((Prims.does n l).1,(Prims.does n l).2,true)=R:=by rw[←hR2];simp
     clear hR2 HR
     go_wp2_with fail
     refine (HD.out (HAL.out (by simp)) (by simp) (by simp) (by simp) _ HB3.out).mono ?_
     rintro e1 w4 ⟨k,n',d,s,o',len',cap',rfl,hrep,hb4⟩
     have HX4:=Lib.hid (show Box5 w4 w.heap.size 45 (.int .i64 0) (.int .i64 0) (.int .i64 0) (.string ⟨#[]⟩) (.slice none 0 0) from (hb4.block _ HX3.out.lt).trans HX3.out)
     have HB4:=Lib.hid (Below.next HB3.out hb4)
     have HREP:=Lib.hid hrep
     generalize (Prims.does n l).2=z at *
     clear hb4 hrep
     obtain ⟨q0,q1,q2,q3,q4⟩:=HX4.out.cells
     obtain ⟨z0,z1,z2,z3,z4⟩:=HX4.out.free
     have hlt:=HX4.out.lt
     obtain ⟨r0,r1,r2,r3,r4⟩:=(HX4.out.set (.int .i64 k) (.int .i64 n') (.int .i64 d) (.string s) (.slice o' len' cap')).cells
     go_wp2_with fail
     refine bodyPost_ret (v:=.tuple #[.agg #[.int .i64 k,.int .i64 n',.int .i64 d,.string s,.slice o' len' cap'],.int .i64 z,.bool true]) (by simp[results,Tryz.results71,go_sem,r0,r1,r2,r3,r4,hlt]) rfl ⟨k,n',d,s,o',len',cap',rfl,?_,?_⟩
     ·have h1:Below w.heap.size w4 ((set5 w4 w.heap.size (.int .i64 k) (.int .i64 n') (.int .i64 d) (.string s) (.slice o' len' cap')).alloc (.cells #[.int .i64 k,.int .i64 n',.int .i64 d,.string s,.slice o' len' cap'] 45)):=(set5_below w4 w.heap.size w.heap.size _ _ _ _ _ (Nat.le_refl _)).alloc (by simp;omega) _
      exact HREP.out.kept (hide_below h1)
     ·exact (HB4.out.trans (set5_below w4 w.heap.size w.heap.size _ _ _ _ _ (Nat.le_refl _))).alloc (by simp;omega) _
theorem does_leaf (n:Int) (l:List Dat) (h:n≠18∧n≠19∧n≠22):(Prims.does n l).1.l=[]:=by
 have hnum:∀a b:Int,(Prims.num a b).l=[]:=fun _ _=>rfl
 have htr:∀b:Bool,(Prims.truth b).l=[]:=fun _=>rfl
 have hsl:∀(n:Int) (l:List Dat) (a b:Int),(Prims.sumsL n l a b).1.l=[]:=fun n l=>by
  induction l with
  | nil=>intro a b;rfl
  | cons x l ih=>
   intro a b
   unfold Prims.sumsL
   split
   ·exact ih _ _
   ·rfl
 have hs:∀(n:Int) (l:List Dat),(Prims.sums n l).1.l=[]:=fun n l=>by
  unfold Prims.sums
  split
  ·rfl
  ·unfold Prims.sumsR
   repeat' split
   all_goals exact hsl _ _ _ _
 unfold Prims.does Prims.equal
 repeat' split
 all_goals first | exact hs _ _ | rfl | (exfalso;omega)
theorem repD_leaf {w w':World} {B B':Nat} {x:Dat} {v:Value} (hl:x.l=[]) (h:RepD w B x v):RepD w' B' x v:=by
 obtain ⟨k,n,d,s,l⟩:=x
 replace hl:l=[]:=hl
 subst hl
 rw[RepD] at h ⊢
 obtain ⟨o,len,cap,rfl,h1,h2,h3,h4,h5,h6,h7,h8⟩:=h
 refine ⟨o,len,cap,rfl,h1,h2,h3,h4,h5,h6,h7,?_⟩
 cases o with
 | none=>exact h8
 | some a=>exact ⟨fun h=>absurd rfl h,by rw[RepC];trivial⟩
theorem does_anyS (S:Nat→Prop) (n:Int) (l:List Dat) (sl:Value) (B:Nat) (w:World) (hv:RepS (hide w S) B l sl) (hB:B≤w.heap.size) (hr:∀x∈l,Dat.right x 0=true) (ht:Prims.takes n l.length=true) (hh:Prims.has n=true) (hf:(Prims.facts n).folds=true) :
  Calls Tryz.prog 100 #[.int .i64 n,sl] w (EndPostS S B (Prims.does n l) w):=by
 by_cases h18:n=18
 ·subst h18;exact does_18S S l sl B w hv hr (takes_len 18 1 l.length ht rfl rfl)
 by_cases h19:n=19
 ·subst h19;exact does_19S S l sl B w hv hr (takes_len 19 1 l.length ht rfl rfl)
 by_cases h22:n=22
 ·subst h22;exact does_22S S l sl B w hv hr (takes_len 22 2 l.length ht rfl rfl)
 refine (does_any n l sl B w hv.unhide hB hr ht hh hf).mono ?_
 rintro e w' ⟨k,m,d,s,o,len,cap,he,hrep,hb⟩
 exact ⟨k,m,d,s,o,len,cap,he,repD_leaf (does_leaf n l ⟨h18,h19,h22⟩) hrep,hb⟩
theorem fold_anyS (S:Nat→Prop) (n:Int) (h0:-9223372036854775808≤n) (h1:n≤9223372036854775807) (l:List Dat) (sl:Value) (B:Nat) (w:World) (hv:RepS (hide w S) B l sl) (hB:B≤w.heap.size) :
  Calls Tryz.prog 71 #[.int .i64 n,sl] w (FoldPostS S w.heap.size (Prims.fold n l) w):=
 fold_ofS S n h0 h1 l sl B w hv hB (fun hr ht hh hf W hb=>does_anyS S n l sl w.heap.size W (hv.shown (Shown.below hb) hB) hb.size hr ht hh hf)
end
section
open Go Go.RowKit
def GoodR (cb bb sb:Nat) (nc nk:Int) (fr:Bool) (size:Int) (l b:List Int) (sc:Int→Bool) (w':World):Prop:=∃l',l'.Perm (l++b)∧ChkS w' cb bb sb nc nk fr size l' sc
def RightC (x:Trm):Prop:=∀(c0 c1 c2 c3:Value) (B cb bb sb:Nat) (nc nk size:Int) (fr:Bool) (l:List Int) (sc:Int→Bool) (deep:Int) (W:World),TrmR W B x [c0,c1,c2,c3]→(∀b,S3 cb bb sb b→B≤b)→B≤W.heap.size→ChkS W cb bb sb nc nk fr size l sc→(∀v,sc v=true→v∈l) →
 0≤size→size+x.all≤20000→0≤deep→deep+x.all≤401 →
 Calls Tryz.prog 34 #[.pointer (some ⟨cb,0,none⟩),.agg #[c0,c1,c2,c3],.map (some sb),.int .i64 deep] W (ChkPost cb bb sb nc nk fr (Trm.wf nc nk fr x sc&&Trm.newB (fun _=>false) (l++x.bnd)) (GoodR cb bb sb nc nk fr (size+x.all) l x.bnd sc) W)
def FoundR (cb bb sb:Nat) (nc nk:Int) (fr:Bool) (r:Bool) (Good:World→Prop) (w:World) (e:Ending) (w':World):Prop:=e=.returned (.bool (!r))∧Turned (S3 cb bb sb) w w'∧(r=true→Good w')∧(r=false→ChkX w' cb bb sb nc nk fr)
theorem bndL_append:∀(a b:List Trm),Trm.bndL (a++b)=Trm.bndL a++Trm.bndL b
 | [],b=>by simp[Trm.bndL]
 | x::a,b=>by rw[List.cons_append,Trm.bndL,bndL_append a b,Trm.bndL,List.append_assoc]
theorem allL_append:∀(a b:List Trm),Trm.allL (a++b)=Trm.allL a+Trm.allL b
 | [],b=>by simp[Trm.allL]
 | x::a,b=>by rw[List.cons_append,Trm.allL,allL_append a b,Trm.allL];omega
theorem bndL_snoc {l:List Trm} {j:Nat} {x:Trm} (h:l[j]?=some x):Trm.bndL (l.take (j+1))=Trm.bndL (l.take j)++x.bnd:=by
 rw[List.take_add_one,h,bndL_append];simp[Trm.bndL]
theorem allL_snoc {l:List Trm} {j:Nat} {x:Trm} (h:l[j]?=some x):Trm.allL (l.take (j+1))=Trm.allL (l.take j)+x.all:=by
 rw[List.take_add_one,h,allL_append];simp[Trm.allL]
theorem allLT_take (l:List Trm) (j:Nat):Trm.allL (l.take j)≤Trm.allL l:=by
 conv=>rhs;rw[←List.take_append_drop j l,allL_append]
 omega
theorem newB_more {a b:List Int} (h:Trm.newB (fun _=>false) (a++b)=true):Trm.newB (fun _=>false) a=true:=by
 rw[Trm.newB_append,Bool.and_eq_true] at h;exact h.1
def okL (nc nk:Int) (fr:Bool) (sc:Int→Bool) (l:List Int) (ts:List Trm):Bool:=(ts.all fun x=>Trm.wf nc nk fr x sc)&&Trm.newB (fun _=>false) (l++Trm.bndL ts)
theorem okL_step {nc nk:Int} {fr:Bool} {sc:Int→Bool} {l l':List Int} {ts:List Trm} {j:Nat} {x:Trm} (hx:ts[j]?=some x) (hp:l'.Perm (l++Trm.bndL (ts.take j))) (h:okL nc nk fr sc l (ts.take j)=true) :
  okL nc nk fr sc l (ts.take (j+1))=(Trm.wf nc nk fr x sc&&Trm.newB (fun _=>false) (l'++x.bnd)):=by
 rw[okL,bndL_snoc hx,←List.append_assoc,Trm.newB_perm (hp.append_right x.bnd).symm,List.take_add_one,hx,List.all_append]
 rw[okL,Bool.and_eq_true] at h
 rw[h.1]
 simp
theorem okL_more {nc nk:Int} {fr:Bool} {sc:Int→Bool} {l:List Int} {ts:List Trm} {j:Nat} (h:okL nc nk fr sc l (ts.take j)=false):okL nc nk fr sc l ts=false:=by
 rw[Bool.eq_false_iff] at h ⊢
 intro hh
 refine h ?_
 rw[okL,Bool.and_eq_true] at hh ⊢
 refine ⟨?_,?_⟩
 ·rw[List.all_eq_true] at hh ⊢
  exact fun x hx=>hh.1 x (List.mem_of_mem_take hx)
 ·have h2:=hh.2
  rw[←List.take_append_drop j ts,bndL_append,←List.append_assoc] at h2
  exact newB_more h2
theorem wfL_split {nc nk:Int} {fr:Bool} {op:Int} (ho:op≠9) {v:List Int}:∀(t:List Trm) (sc:Int→Bool),Trm.wfL nc nk fr op v t sc=(((t.take (t.length-1)).all fun x=>Trm.wf nc nk fr x sc)&&((t.drop (t.length-1)).all fun x=>Trm.wf nc nk fr x (Trm.addV sc v)))
 | [],sc=>by simp[Trm.wfL]
 | [x],sc=>by simp[Trm.wfL]
 | x::y::l,sc=>by
  rw[Trm.wfL,if_neg ho,wfL_split ho (y::l) sc]
  simp[Bool.and_assoc]
theorem wfL_fix {nc nk:Int} {fr:Bool} {v:List Int}:∀(t:List Trm) (sc:Int→Bool),Trm.wfL nc nk fr 9 v t sc=((t.all fun x=>Trm.wf nc nk fr x (Trm.addV sc v))&&((t.take (t.length-1)).all fun x=>x.op==4))
 | [],sc=>by simp[Trm.wfL]
 | [x],sc=>by simp[Trm.wfL]
 | x::y::l,sc=>by
  rw[Trm.wfL,if_pos rfl,wfL_fix (y::l) sc,Bool.eq_iff_iff]
  simp[and_assoc,and_left_comm]
theorem right2_to (x:Trm) (hx:RightC x) (c0 c1 c2 c3:Value) (B cb bb sb:Nat) (nc nk size:Int) (fr:Bool) (l:List Int) (sc:Int→Bool) (deep:Int) (h:Nat) (op n:Int) (vs ts:Value) (W:World) (hv:TrmR W B x [c0,c1,c2,c3]) (hS:∀b,S3 cb bb sb b→B≤b) (hB:B≤W.heap.size) (hc:ChkS W cb bb sb nc nk fr size l sc) (hsc:∀v,sc v=true→v∈l)
  (h0:0≤size) (h1:size+x.all≤20000) (h2:0≤deep) (h3:deep+1+x.all≤401) (hbx:RBox W h cb sb op n vs ts deep) :
  Calls Tryz.prog 67 #[.agg #[c0,c1,c2,c3],.pointer (some ⟨h,0,none⟩),.pointer (some ⟨h+1+1,0,none⟩),.pointer (some ⟨h+1+1+1,0,none⟩)] W
   (FoundR cb bb sb nc nk fr (Trm.wf nc nk fr x sc&&Trm.newB (fun _=>false) (l++x.bnd)) (GoodR cb bb sb nc nk fr (size+x.all) l x.bnd sc) W):=by
 obtain ⟨r,hr⟩:∃r,(Trm.wf nc nk fr x sc&&Trm.newB (fun _=>false) (l++x.bnd))=r:=⟨_,rfl⟩
 rw[hr]
 obtain ⟨o',n',v',t',hxe⟩:∃o' n' v' t',x=.mk o' n' v' t':=by obtain ⟨o',n',v',t'⟩:=x;exact ⟨_,_,_,_,rfl⟩
 have hsh:∃o n q r s q' r' s',c0=.int .i64 o∧c1=.int .i64 n∧c2=.slice q r s∧c3=.slice q' r' s':=by
  subst hxe
  obtain ⟨vs',ts',he,_,_,hvs,hts⟩:=trmR_iff.1 hv
  simp only[List.cons.injEq,and_true] at he
  obtain ⟨rfl,rfl,rfl,rfl⟩:=he
  obtain ⟨q,r,s,rfl⟩:=hvs.form
  obtain ⟨q',r',s',rfl⟩:=hts.form
  exact ⟨_,_,_,_,_,_,_,_,rfl,rfl,rfl,rfl⟩
 obtain ⟨o,nn,q,rr,s,q',r',s',rfl,rfl,rfl,rfl⟩:=hsh
 obtain ⟨W1,hW1⟩:∃W1,W.alloc (.cells #[.int .i64 o,.int .i64 nn,.slice q rr s,.slice q' r' s'] 26)=W1:=⟨_,rfl⟩
 have HB1:=Lib.hid (show Below W.heap.size W W1 from by rw[←hW1];exact Below.one W _)
 have HC:=Lib.hid (hx _ _ _ _ B cb bb sb nc nk size fr l sc (deep+1) W1 (TrmR.kept (HB1.out.mono hB) _ _ hv) hS (Nat.le_trans hB HB1.out.size) (hc.keep HB1.out) hsc h0 h1 (by omega) (by omega))
 rw[hr] at HC
 have HW:=Lib.hid hW1
 have HR:=Lib.hid hr
 have x0:=hbx.c.cell 0 rfl
 have x1:=hbx.s.cell 0 rfl
 have x2:=hbx.d.cell 0 rfl
 have l0:=hbx.c.lt
 have l1:=hbx.s.lt
 have l2:=hbx.d.lt
 have hall:=x.all_pos
 clear hr hW1 hv hc hx hxe hbx
 go_enter Tryz.func67,Tryz.ntmps67
 go_wp2_with fail
 rw[HW.out]
 refine HC.out.mono ?_
 rintro e w1 ⟨rfl,hT,hg,hb⟩
 have HT:=Lib.hid ((Turned.of_below (S:=S3 cb bb sb) HB1.out).next hT)
 have HG:=Lib.hid hg
 have HBD:=Lib.hid hb
 clear hT hg hb x0 x1 x2
 cases r with
 | true=>
  go_wp2_with fail
  go_ret
  exact ⟨rfl,HT.out,fun _=>HG.out trivial,fun h=>by simp at h⟩
 | false=>
  go_wp2_with fail
  go_ret
  exact ⟨rfl,HT.out,fun h=>by simp at h,fun _=>HBD.out trivial⟩
theorem search_any (ts:List Trm) (hx:∀x∈ts,RightC x) (sl:Value) (B cb bb sb:Nat) (nc nk size:Int) (fr:Bool) (l:List Int) (sc:Int→Bool) (deep:Int) (h:Nat) (op n:Int) (vs tv:Value) (W:World) (hv:TrmS W B ts sl) (hS:∀b,S3 cb bb sb b→B≤b) (hSh:∀b,S3 cb bb sb b→b<h) (hB:B≤W.heap.size) (hc:ChkS W cb bb sb nc nk fr size l sc) (hsc:∀v,sc v=true→v∈l)
  (h0:0≤size) (h1:size+Trm.allL ts≤20000) (h2:0≤deep) (h3:deep+1+Trm.allL ts≤401) (hbx:RBox W h cb sb op n vs tv deep) :
  Calls Tryz.prog 66 #[sl,.func (.func 67) #[] #[.pointer (some ⟨h,0,none⟩),.pointer (some ⟨h+1+1,0,none⟩),.pointer (some ⟨h+1+1+1,0,none⟩)]] W
   (FoundR cb bb sb nc nk fr (okL nc nk fr sc l ts) (GoodR cb bb sb nc nk fr (size+Trm.allL ts) l (Trm.bndL ts) sc) W):=by
 let St:Nat→World→Prop:=fun j w'=>okL nc nk fr sc l (ts.take j)=true∧GoodR cb bb sb nc nk fr (size+Trm.allL (ts.take j)) l (Trm.bndL (ts.take j)) sc w'∧Turned (S3 cb bb sb) W w'
 let Bad:World→Prop:=fun w'=>okL nc nk fr sc l ts=false∧ChkX w' cb bb sb nc nk fr∧Turned (S3 cb bb sb) W w'
 refine (containsT_S 67 #[.pointer (some ⟨h,0,none⟩),.pointer (some ⟨h+1+1,0,none⟩),.pointer (some ⟨h+1+1+1,0,none⟩)] ts sl B W St Bad hv (fun _ _=>rfl) (fun j w' hst=>hst.2.2.below hS hB) ?_ ?_).mono ?_
 ·refine ⟨?_,⟨l,by simp[Trm.bndL],?_⟩,Turned.refl _ _⟩
  ·rw[List.take_zero,okL,Trm.bndL,List.append_nil,hc.new];rfl
  ·rw[List.take_zero,Trm.allL];simpa using hc
 ·intro j x hxj c0 c1 c2 c3 w' hr hst
  obtain ⟨hok,⟨l',hp,hcs⟩,ht⟩:=hst
  have hle:=allLT_take ts (j+1)
  have hsn:=allL_snoc hxj
  refine (right2_to x (hx x (List.mem_of_getElem? hxj)) c0 c1 c2 c3 B cb bb sb nc nk _ fr l' sc deep h op n vs tv w' hr hS (Nat.le_trans hB ht.size) hcs (fun v hv=>hp.mem_iff.2 (List.mem_append_left _ (hsc v hv))) (by omega) (by omega) h2 (by omega) (hbx.turned ht hSh)).mono ?_
  rintro e w2 ⟨rfl,ht2,hg,hb⟩
  have hst:=okL_step hxj hp hok
  obtain ⟨r,hr⟩:∃r,(Trm.wf nc nk fr x sc&&Trm.newB (fun _=>false) (l'++x.bnd))=r:=⟨_,rfl⟩
  rw[hr] at hst hg hb ⊢
  refine ⟨_,rfl,fun hc=>?_,fun hc=>?_⟩
  ·have hr0:r=false:=by simpa using hc
   exact ⟨okL_more (hst.trans hr0),hb hr0,ht.next ht2⟩
  ·have hr0:r=true:=by simpa using hc
   refine ⟨hst.trans hr0,?_,ht.next ht2⟩
   obtain ⟨l2,hp2,hcs2⟩:=hg hr0
   refine ⟨l2,?_,?_⟩
   ·rw[bndL_snoc hxj,←List.append_assoc]
    exact hp2.trans (hp.append_right _)
   ·rw[hsn,show size+((Trm.allL (ts.take j)+x.all:Nat):Int)=size+(Trm.allL (ts.take j):Nat)+(x.all:Nat) by omega]
    exact hcs2
 ·rintro e w' ⟨c,rfl,hb,hg⟩
  cases c with
  | true=>
   have h:=hb rfl
   rw[h.1]
   exact ⟨rfl,h.2.2,fun h=>(by cases h),fun _=>h.2.1⟩
  | false=>
   have h:=hg rfl
   simp only[St,List.take_of_length_le (Nat.le_refl _)] at h
   rw[h.1]
   exact ⟨rfl,h.2.2,fun _=>h.2.1,fun h=>(by cases h)⟩
end
end Go.Proofs.YtgbibibmpoekiaaGreatDoor
