/-
  What the proofs lean on: RegG, Does, At, CkA, RegL.
-/
import Derived.Test.YtgbibibmpoekiaaGreatDoorShfA10
import Derived.Test.YtgbibibmpoekiaaGreatDoorShfA11
import Derived.Test.YtgbibibmpoekiaaGreatDoorShfA13
import Derived.Test.YtgbibibmpoekiaaGreatDoorShfA15
set_option maxRecDepth 100000
set_option maxHeartbeats 16000000
namespace Go.Proofs.YtgbibibmpoekiaaGreatDoor
section
open Go Go.RowKit
section
variable {P : Program} {ops : Array Oper} {md : Region.Mode}
theorem any_invG {n g:Nat} {I:Array Bool→Act→World→Prop} {Q:Exit→Act→World→Prop} (hb:backB md ops=true) (hs:Region.sinkB md ops n=true) (hc:coneB md ops n=true) (hn:n<ops.size)
  (hstep:∀listed a w i,I listed a w→i<n→i∈Region.ready md ops listed→wpOp P ops Q i (fun a' w'=>I (listed.setIfInBounds i true) a' w') a w)
  (hend:∀listed a w,I listed a w→HeadInv md ops n listed→(∀i,i<n→listed.getD i true=true)→wpAny P md ops Q g listed a w) :
  ∀(f:Nat) (listed:Array Bool) (a:Act) (w:World),((List.range n).filter fun i=>!listed.getD i true).length=f→HeadInv md ops n listed→I listed a w→wpAny P md ops Q (f+g) listed a w
 | 0,listed,a,w,hf,inv,h=>by
  rw[Nat.zero_add]
  refine hend listed a w h inv fun i hi=>?_
  have h0:=List.eq_nil_of_length_eq_zero hf
  rw[List.filter_eq_nil_iff] at h0
  have:=h0 i (List.mem_range.2 hi)
  simpa using this
 | f+1,listed,a,w,hf,inv,h=>by
  rw[show f+1+g=(f+g)+1 by omega]
  have hex:∃i,i<n∧i<ops.size∧listed.getD i true=false:=by
   obtain ⟨i,hi⟩:=List.exists_mem_of_length_pos (by rw[hf];omega)
   rw[List.mem_filter,List.mem_range] at hi
   exact ⟨i,hi.1,by omega,by simpa using hi.2⟩
  refine ⟨fun h0=>absurd h0 (first_ready hb inv.size hex),fun i hi=>?_⟩
  have hin:i<n:=by
   rcases Nat.lt_or_ge i n with h' | h'
   ·exact h'
   ·obtain ⟨j,hj,_,hjl⟩:=hex
    exact absurd hi (cone_waits hs hc hn inv _ j rfl hj hjl i h')
  refine wpOp_mono (fun a' w' h'=>any_invG hb hs hc hn hstep hend f _ a' w' ?_ (inv.set hi hin) h') (hstep listed a w i h hin hi)
  have hun:=(mem_ready.1 hi).1
  have hlt:i<listed.size:=by rw[inv.size];omega
  have e:((List.range n).filter fun k=>!listed.getD k true)=((List.range n).filter fun k=>!listed.getD k true):=rfl
  have key:((List.range n).filter fun k=>!(listed.setIfInBounds i true).getD k true)=(((List.range n).filter fun k=>!listed.getD k true)).erase i:=by
   rw[List.Nodup.erase_eq_filter (List.nodup_range.sublist List.filter_sublist),List.filter_filter]
   apply List.filter_congr
   intro k hk
   by_cases hki:k=i
   ·subst hki
    simp[hlt]
   ·rw[getD_set_ne true (Ne.symm hki)]
    simp[hki]
  rw[key,List.length_erase_of_mem (by rw[List.mem_filter,List.mem_range];exact ⟨hin,by simpa using hun⟩),hf]
  rfl
end
def coneM (ops:Array Oper) (n m:Nat):Bool:=(backB .any ops&&(Region.sinkB .any ops n&&(coneB .any ops n&&(decide (n<ops.size)&&slotsB ops n m))))&&guardsB .any ops n m []
theorem wp_region_invG {P:Program} {id:Nat} {Q:Exit→Act→World→Prop} {a0:Act} {w:World} {l:List Oper} (n:Nat) (I:Array Bool→Act→World→Prop) (hm:P.follows .mixedOrders=true) (hB:coneM l.toArray n a0.tmps.size=true)
  (h0:I (Array.replicate l.toArray.size false) a0 w.drew)
  (hops:∀i o,i<n→l.toArray[i]?=some o→∀(listed:Array Bool) (a:Act) (w1:World),listed.size=l.toArray.size→a.defers=a0.defers→a.tmps.size=a0.tmps.size→Rest l.toArray n a0 a→I listed a w1→listed.getD i false=false→(∀e∈o.after,Region.binds .any e=true→listed.getD e.on false=true) →
   o.wp P a w1 (fun a' w'=>∃v,a'=a.put o.dst v∧I (listed.setIfInBounds i true) a' w') Q)
  (hend:∀(listed:Array Bool) (a:Act) (w1:World),(∀i,i<n→listed.getD i false=true)→a.defers=a0.defers→a.tmps.size=a0.tmps.size→Rest l.toArray n a0 a→I listed a w1→HeadInv .any l.toArray n listed→wpAny P .any l.toArray Q (l.toArray.size-n) listed a w1) :
  (Code.region id l.toArray true).wp P Q a0 w:=by
 simp only[coneM,Bool.and_eq_true,decide_eq_true_eq] at hB
 obtain ⟨⟨h1,h2,h3,h4,h5⟩,h7⟩:=hB
 refine wp_region_any hm ?_
 have inv0:HeadInv .any l.toArray n (Array.replicate l.toArray.size false):=
  ⟨by simp,fun j oj _ hl=>(by rw[getD_replicate_false] at hl;cases hl),fun t _ ht=>getD_in (by simpa using ht) (getD_replicate_false _ _)⟩
 have hcount:((List.range n).filter fun i=>!(Array.replicate l.toArray.size false).getD i true).length=n:=by
  rw[List.filter_eq_self.2]
  ·simp
  ·intro i hi
   have:i<l.toArray.size:=by have:=List.mem_range.1 hi;omega
   have h':i<l.length:=by simpa using this
   simp[h']
 have:=any_invG (P:=P) (Q:=Q) (g:=l.toArray.size-n) (I:=fun listed a w=>listed.size=l.toArray.size∧a.defers=a0.defers∧a.tmps.size=a0.tmps.size∧Rest l.toArray n a0 a∧I listed a w) h1 h2 h3 h4 ?_ ?_ n _ a0 w.drew hcount inv0
  ⟨by simp,rfl,rfl,fun _ _=>rfl,h0⟩
 ·rwa[show n+(l.toArray.size-n)=l.toArray.size by omega] at this
 ·rintro listed a w1 i ⟨hls,hdf,hsz,hrest,hI⟩ hi hr
  obtain ⟨hun,o,ho,hdeps⟩:=mem_ready.1 hr
  unfold wpOp
  simp only[ho]
  have hg:Region.wanted o (yielded l.toArray a.tmps)=true:=wanted_of (R:=fun _ _ _=>True) (w:=w1) h7 (fun _ h=>by cases h) hi ho (by rw[hsz];exact Nat.le_refl _) (fun _ _ _ _ _ _ _=>trivial)
  rw[if_pos hg]
  left
  refine Oper.wp_mono ?_ (hops i o hi ho listed a w1 hls hdf hsz hrest hI (by
   have hlt:i<listed.size:=by rw[hls];omega
   simpa[hlt] using hun) hdeps)
  rintro a' w' ⟨v,rfl,hI'⟩
  refine ⟨by simpa using hls,?_,?_,?_,hI'⟩
  ·cases o.dst<;>exact hdf
  ·cases hdst:o.dst with
   | none=>exact hsz
   | some d=>simpa[Act.put] using hsz
  ·intro t ht
   cases hdst:o.dst with
   | none=>exact hrest t ht
   | some d'=>
    have hd':d' < a.tmps.size:=by
     have g1:=List.all_eq_true.1 (List.all_eq_true.1 h5 i (List.mem_range.2 hi)) i (List.mem_range.2 hi)
     simp only[ho,hdst,Bool.and_eq_true,decide_eq_true_eq] at g1
     rw[hsz];exact g1.1
    rw[put_getD hd',if_neg ?_]
    ·exact hrest t ht
    ·rintro rfl;exact ht i o hi ho hdst
 ·rintro listed a w1 ⟨hls,hdf,hsz,hrest,hI⟩ inv hall
  exact hend listed a w1 (fun i hi=>by
    have:=hall i hi
    have hlt:i<listed.size:=by rw[hls];omega
    simpa[hlt] using this) hdf hsz hrest hI inv
theorem wp_region_stG {P:Program} {id:Nat} {Q:Exit→Act→World→Prop} {a0:Act} {w:World} {l:List Oper} (n:Nat) (Ph:Array Bool→World→Prop) (R:Nat→Value→World→Prop) (hm:P.follows .mixedOrders=true) (hB:coneM l.toArray n a0.tmps.size=true)
  (h0:Ph (Array.replicate l.toArray.size false) w.drew)
  (hops:∀i o,i<n→l.toArray[i]?=some o→∀(listed:Array Bool) (a:Act) (w1:World),i<listed.size→(∀e∈o.after,Region.binds .any e=true→listed.getD e.on false=true)→Ph listed w1→listed.getD i false=false→DepsF l.toArray n R o a w1→Rest l.toArray n a0 a→o.wp P a w1 (StF Ph R listed i o a w1) Q)
  (hend:∀(listed:Array Bool) a w1,a.defers=a0.defers→a.tmps.size=a0.tmps.size→(∀i,i<n→listed.getD i false=true)→Ph listed w1→(∀i o d,i<n→l.toArray[i]?=some o→o.dst=some d→R i (a.tmps.getD d undef) w1)→Rest l.toArray n a0 a→wpAny P .any l.toArray Q (l.toArray.size-n) (headDone n l.toArray.size) a w1) :
  (Code.region id l.toArray true).wp P Q a0 w:=by
 have hB':=hB
 simp only[coneM,Bool.and_eq_true,decide_eq_true_eq] at hB'
 obtain ⟨⟨_,_,_,hn,hsl⟩,hgd⟩:=hB'
 refine wp_region_invG n (fun listed a W=>Ph listed W∧∀i o d,i<n→l.toArray[i]?=some o→listed.getD i false=true→o.dst=some d→R i (a.tmps.getD d undef) W) hm hB ⟨h0,fun i o d _ _ h=>by rw[getD_replicate_false] at h;cases h⟩ ?_ ?_
 ·intro i o hi ho listed a w1 hls hdf hsz hrest ⟨hph,hval⟩ hun hdeps
  have hlt:i<listed.size:=by rw[hls];omega
  refine Oper.wp_mono ?_ (hops i o hi ho listed a w1 hlt hdeps hph hun (fun j oj d hj hoj ⟨e,he,hb,hon⟩ hd=>hval j oj d hj hoj (by have:=hdeps e he hb;rwa[hon] at this) hd) hrest)
  rintro a' w' ⟨v,rfl,hv,hx,hkeep⟩
  refine ⟨v,rfl,hx,fun j oj d hj hoj hl hd=>?_⟩
  by_cases e:i=j
  ·subst e
   obtain rfl:oj=o:=Option.some.inj (hoj.symm.trans ho)
   have hd':=(slotsF_at hsl hi hi ho ho hd hd).1
   rw[hd,put_getD (by rw[hsz];exact hd'),if_pos rfl]
   exact hv
  ·rw[getD_set_ne false e] at hl
   have hold:=hval j oj d hj hoj hl hd
   have hsame:(a.put o.dst v).tmps.getD d undef=a.tmps.getD d undef:=by
    cases hdo:o.dst with
    | none=>rfl
    | some d'=>
     obtain ⟨hd',hne⟩:=slotsF_at hsl hi hj ho hoj hdo hd
     rw[put_getD (by rw[hsz];exact hd'),if_neg (hne.resolve_left e)]
   rw[hsame]
   exact hkeep j _ (fun h=>e h.symm) hl hold
 ·intro listed a w1 hall hdf hsz hrest ⟨hph,hval⟩ inv
  rw[headDone_eq hn inv (fun i hi=>by have h:=hall i hi;have hlt:i<listed.size:=(by rw[inv.size];omega);simpa[hlt] using h)]
  exact hend listed a w1 hdf hsz hall hph (fun i o d hi ho hd=>hval i o d hi ho (hall i hi) hd) hrest
theorem wp_region_newG {P:Program} {id:Nat} {Q:Exit→Act→World→Prop} {a0:Act} {w:World} {l:List Oper} (n:Nat) (R:Nat→Value→World→Prop) (hm:P.follows .mixedOrders=true) (hB:coneM l.toArray n a0.tmps.size=true)
  (hR:∀i v A B,R i v A→Below w.drew.heap.size w.drew A→Below A.heap.size A B→R i v B)
  (hops:∀i o,i<n→l.toArray[i]?=some o→∀(a:Act) (w1:World),Below w.drew.heap.size w.drew w1→DepsF l.toArray n R o a w1→Rest l.toArray n a0 a→o.wp P a w1 (fun a' w'=>∃v,a'=a.put o.dst v∧R i v w'∧Below w1.heap.size w1 w') Q)
  (hend:∀a w1,a.defers=a0.defers→a.tmps.size=a0.tmps.size→Below w.drew.heap.size w.drew w1→(∀i o d,i<n→l.toArray[i]?=some o→o.dst=some d→R i (a.tmps.getD d undef) w1)→Rest l.toArray n a0 a→wpAny P .any l.toArray Q (l.toArray.size-n) (headDone n l.toArray.size) a w1) :
  (Code.region id l.toArray true).wp P Q a0 w:=by
 refine wp_region_stG n (fun _ W=>Below w.drew.heap.size w.drew W) R hm hB (Below.refl _ _) ?_ ?_
 ·intro i o hi ho listed a w1 hlt _ hb hun hdeps hrest
  refine Oper.wp_mono ?_ (hops i o hi ho a w1 hb hdeps hrest)
  rintro a' w' ⟨v,rfl,hv,hx⟩
  exact ⟨v,rfl,hv,hb.trans (hx.mono hb.size),fun j u _ _ h=>hR j u _ _ h hb hx⟩
 ·intro listed a w1 hdf hsz _ hb hval hrest
  exact hend a w1 hdf hsz hb hval hrest
theorem wpAny_step {P:Program} {l:List Oper} {Q:Exit→Act→World→Prop} {f:Nat} {listed:Array Bool} {a:Act} {w:World} (rs:List Nat) (hr:Region.ready .any l.toArray listed=rs) (hne:rs≠[])
  (h:∀i∈rs,∀o,l[i]?=some o→wpList P l.toArray (fun e a' w'=>e=.normal∧wpAny P .any l.toArray Q f (listed.setIfInBounds i true) a' w') [o] a w):wpAny P .any l.toArray Q (f+1) listed a w:=
 wpAny_all hr hne fun i hi=>by
  have hi':i∈Region.ready .any l.toArray listed:=hr ▸ hi
  obtain ⟨_,o,ho,_⟩:=mem_ready.1 hi'
  exact op_of_list (o:=o) ho (h i hi o (by simpa using ho))
theorem wpAny_end {P:Program} {l:List Oper} {Q:Exit→Act→World→Prop} {listed:Array Bool} {a:Act} {w:World} (hr:Region.ready .any l.toArray listed=[]) (h:Q .normal a w):wpAny P .any l.toArray Q 0 listed a w:=⟨hr,h⟩
end
section
open Go.RowKit
theorem slice_of {w:World} {B:Nat} {l:List Dat} {v:Value} (h:RepS w B l v):∃o len cap,v=.slice o len cap∧len=l.length∧len≤cap∧cap≤9223372036854775807:=by
 obtain ⟨o,len,cap,h1,h2,h3,h4,_⟩:=h
 exact ⟨o,len,cap,h1,h2,h3,h4⟩
theorem does_0 (l:List Dat) (sl:Value) (B:Nat) (w:World) (hv:RepS w B l sl) (hB:B≤w.heap.size) :
  Calls Tryz.prog 100 #[.int .i64 0,sl] w (EndPost B (Prims.does 0 l) w):=by
 obtain ⟨⟨R1,z⟩,hR⟩:∃R,Prims.does 0 l=R:=⟨_,rfl⟩
 have HR:=Lib.hid (show Prims.sums 0 l=(R1,z) by rw[←hR];simp[Prims.does])
 rw[hR]
 obtain ⟨o,len,cap,rfl,hle⟩:=slice_of hv
 clear hle
 have HV:=Lib.hid hv
 clear hv hR
 have HC:=Lib.hid (fun W (hb:Below w.heap.size w W)=>sums_0 l _ B W (HV.out.kept (hb.mono hB)) (Nat.le_trans hB hb.size) B)
 rw[HR.out] at HC
 have HK:=Lib.hid (fun X=>(Below.refl w.heap.size w).alloc (Nat.le_refl _) X)
 go_enter Tryz.func100,Tryz.ntmps100
 go_wp2_with fail
 refine (HC.out _ (HK.out _)).mono ?_
 rintro e1 w1 ⟨k,n',d,s,o',len',cap',rfl,hrep,hb1⟩
 have HX1:=Lib.hid (show Box5 w1 w.heap.size 45 (.int .i64 0) (.int .i64 0) (.int .i64 0) (.string ⟨#[]⟩) (.slice none 0 0) from (hb1.block _ (by simp)).trans (Box5.new w _ _ _ _ _ _))
 have HB1:=Lib.hid (one_below hb1)
 have hs1:=HB1.out.size
 have HREP:=Lib.hid hrep
 obtain ⟨q0,q1,q2,q3,q4⟩:=HX1.out.cells
 obtain ⟨z0,z1,z2,z3,z4⟩:=HX1.out.free
 have hlt:=HX1.out.lt
 obtain ⟨r0,r1,r2,r3,r4⟩:=(HX1.out.set (.int .i64 k) (.int .i64 n') (.int .i64 d) (.string s) (.slice o' len' cap')).cells
 clear hb1 hrep HC HR HV
 dsimp only
 go_wp2_with fail
 refine bodyPost_ret (v:=.tuple #[.agg #[.int .i64 k,.int .i64 n',.int .i64 d,.string s,.slice o' len' cap'],.int .i64 z]) (by simp[results,Tryz.results100,go_sem,r0,r1,r2,r3,r4]) rfl ⟨k,n',d,s,o',len',cap',by first | rfl | skip,?_,?_⟩
 ·exact HREP.out.kept (set5_below w1 w.heap.size B _ _ _ _ _ hB)
 ·exact HB1.out.trans (set5_below w1 w.heap.size w.heap.size _ _ _ _ _ (Nat.le_refl _))
theorem does_1 (l:List Dat) (sl:Value) (B:Nat) (w:World) (hv:RepS w B l sl) (hB:B≤w.heap.size) :
  Calls Tryz.prog 100 #[.int .i64 1,sl] w (EndPost B (Prims.does 1 l) w):=by
 obtain ⟨⟨R1,z⟩,hR⟩:∃R,Prims.does 1 l=R:=⟨_,rfl⟩
 have HR:=Lib.hid (show Prims.sums 1 l=(R1,z) by rw[←hR];simp[Prims.does])
 rw[hR]
 obtain ⟨o,len,cap,rfl,hle⟩:=slice_of hv
 clear hle
 have HV:=Lib.hid hv
 clear hv hR
 have HC:=Lib.hid (fun W (hb:Below w.heap.size w W)=>sums_1 l _ B W (HV.out.kept (hb.mono hB)) (Nat.le_trans hB hb.size) B)
 rw[HR.out] at HC
 have HK:=Lib.hid (fun X=>(Below.refl w.heap.size w).alloc (Nat.le_refl _) X)
 go_enter Tryz.func100,Tryz.ntmps100
 go_wp2_with fail
 refine (HC.out _ (HK.out _)).mono ?_
 rintro e1 w1 ⟨k,n',d,s,o',len',cap',rfl,hrep,hb1⟩
 have HX1:=Lib.hid (show Box5 w1 w.heap.size 45 (.int .i64 0) (.int .i64 0) (.int .i64 0) (.string ⟨#[]⟩) (.slice none 0 0) from (hb1.block _ (by simp)).trans (Box5.new w _ _ _ _ _ _))
 have HB1:=Lib.hid (one_below hb1)
 have hs1:=HB1.out.size
 have HREP:=Lib.hid hrep
 obtain ⟨q0,q1,q2,q3,q4⟩:=HX1.out.cells
 obtain ⟨z0,z1,z2,z3,z4⟩:=HX1.out.free
 have hlt:=HX1.out.lt
 obtain ⟨r0,r1,r2,r3,r4⟩:=(HX1.out.set (.int .i64 k) (.int .i64 n') (.int .i64 d) (.string s) (.slice o' len' cap')).cells
 clear hb1 hrep HC HR HV
 dsimp only
 go_wp2_with fail
 refine bodyPost_ret (v:=.tuple #[.agg #[.int .i64 k,.int .i64 n',.int .i64 d,.string s,.slice o' len' cap'],.int .i64 z]) (by simp[results,Tryz.results100,go_sem,r0,r1,r2,r3,r4]) rfl ⟨k,n',d,s,o',len',cap',by first | rfl | skip,?_,?_⟩
 ·exact HREP.out.kept (set5_below w1 w.heap.size B _ _ _ _ _ hB)
 ·exact HB1.out.trans (set5_below w1 w.heap.size w.heap.size _ _ _ _ _ (Nat.le_refl _))
theorem does_2 (l:List Dat) (sl:Value) (B:Nat) (w:World) (hv:RepS w B l sl) (hB:B≤w.heap.size) :
  Calls Tryz.prog 100 #[.int .i64 2,sl] w (EndPost B (Prims.does 2 l) w):=by
 obtain ⟨⟨R1,z⟩,hR⟩:∃R,Prims.does 2 l=R:=⟨_,rfl⟩
 have HR:=Lib.hid (show Prims.sums 2 l=(R1,z) by rw[←hR];simp[Prims.does])
 rw[hR]
 obtain ⟨o,len,cap,rfl,hle⟩:=slice_of hv
 clear hle
 have HV:=Lib.hid hv
 clear hv hR
 have HC:=Lib.hid (fun W (hb:Below w.heap.size w W)=>sums_2 l _ B W (HV.out.kept (hb.mono hB)) (Nat.le_trans hB hb.size) B)
 rw[HR.out] at HC
 have HK:=Lib.hid (fun X=>(Below.refl w.heap.size w).alloc (Nat.le_refl _) X)
 go_enter Tryz.func100,Tryz.ntmps100
 go_wp2_with fail
 refine (HC.out _ (HK.out _)).mono ?_
 rintro e1 w1 ⟨k,n',d,s,o',len',cap',rfl,hrep,hb1⟩
 have HX1:=Lib.hid (show Box5 w1 w.heap.size 45 (.int .i64 0) (.int .i64 0) (.int .i64 0) (.string ⟨#[]⟩) (.slice none 0 0) from (hb1.block _ (by simp)).trans (Box5.new w _ _ _ _ _ _))
 have HB1:=Lib.hid (one_below hb1)
 have hs1:=HB1.out.size
 have HREP:=Lib.hid hrep
 obtain ⟨q0,q1,q2,q3,q4⟩:=HX1.out.cells
 obtain ⟨z0,z1,z2,z3,z4⟩:=HX1.out.free
 have hlt:=HX1.out.lt
 obtain ⟨r0,r1,r2,r3,r4⟩:=(HX1.out.set (.int .i64 k) (.int .i64 n') (.int .i64 d) (.string s) (.slice o' len' cap')).cells
 clear hb1 hrep HC HR HV
 dsimp only
 go_wp2_with fail
 refine bodyPost_ret (v:=.tuple #[.agg #[.int .i64 k,.int .i64 n',.int .i64 d,.string s,.slice o' len' cap'],.int .i64 z]) (by simp[results,Tryz.results100,go_sem,r0,r1,r2,r3,r4]) rfl ⟨k,n',d,s,o',len',cap',by first | rfl | skip,?_,?_⟩
 ·exact HREP.out.kept (set5_below w1 w.heap.size B _ _ _ _ _ hB)
 ·exact HB1.out.trans (set5_below w1 w.heap.size w.heap.size _ _ _ _ _ (Nat.le_refl _))
theorem does_3 (l:List Dat) (sl:Value) (B:Nat) (w:World) (hv:RepS w B l sl) (hB:B≤w.heap.size) :
  Calls Tryz.prog 100 #[.int .i64 3,sl] w (EndPost B (Prims.does 3 l) w):=by
 obtain ⟨⟨R1,z⟩,hR⟩:∃R,Prims.does 3 l=R:=⟨_,rfl⟩
 have HR:=Lib.hid (show Prims.sums 3 l=(R1,z) by rw[←hR];simp[Prims.does])
 rw[hR]
 obtain ⟨o,len,cap,rfl,hle⟩:=slice_of hv
 clear hle
 have HV:=Lib.hid hv
 clear hv hR
 have HC:=Lib.hid (fun W (hb:Below w.heap.size w W)=>sums_3 l _ B W (HV.out.kept (hb.mono hB)) (Nat.le_trans hB hb.size) B)
 rw[HR.out] at HC
 have HK:=Lib.hid (fun X=>(Below.refl w.heap.size w).alloc (Nat.le_refl _) X)
 go_enter Tryz.func100,Tryz.ntmps100
 go_wp2_with fail
 refine (HC.out _ (HK.out _)).mono ?_
 rintro e1 w1 ⟨k,n',d,s,o',len',cap',rfl,hrep,hb1⟩
 have HX1:=Lib.hid (show Box5 w1 w.heap.size 45 (.int .i64 0) (.int .i64 0) (.int .i64 0) (.string ⟨#[]⟩) (.slice none 0 0) from (hb1.block _ (by simp)).trans (Box5.new w _ _ _ _ _ _))
 have HB1:=Lib.hid (one_below hb1)
 have hs1:=HB1.out.size
 have HREP:=Lib.hid hrep
 obtain ⟨q0,q1,q2,q3,q4⟩:=HX1.out.cells
 obtain ⟨z0,z1,z2,z3,z4⟩:=HX1.out.free
 have hlt:=HX1.out.lt
 obtain ⟨r0,r1,r2,r3,r4⟩:=(HX1.out.set (.int .i64 k) (.int .i64 n') (.int .i64 d) (.string s) (.slice o' len' cap')).cells
 clear hb1 hrep HC HR HV
 dsimp only
 go_wp2_with fail
 refine bodyPost_ret (v:=.tuple #[.agg #[.int .i64 k,.int .i64 n',.int .i64 d,.string s,.slice o' len' cap'],.int .i64 z]) (by simp[results,Tryz.results100,go_sem,r0,r1,r2,r3,r4]) rfl ⟨k,n',d,s,o',len',cap',by first | rfl | skip,?_,?_⟩
 ·exact HREP.out.kept (set5_below w1 w.heap.size B _ _ _ _ _ hB)
 ·exact HB1.out.trans (set5_below w1 w.heap.size w.heap.size _ _ _ _ _ (Nat.le_refl _))
theorem does_18 (l:List Dat) (sl:Value) (B:Nat) (w:World) (hv:RepS w B l sl) (hB:B≤w.heap.size) (hr:∀x∈l,Dat.right x 0=true) (hl:l.length=1) :
  Calls Tryz.prog 100 #[.int .i64 18,sl] w (EndPost B (Prims.does 18 l) w):=by
 obtain ⟨x,rfl⟩:∃x,l=[x]:=by
  match l,hl with
  | [x],_=>exact ⟨x,rfl⟩
 have hrx:=hr x (by simp)
 obtain ⟨o,len,cap,rfl,hlen,hcap,hmax⟩:=slice_of hv
 obtain rfl:len=1:=hlen
 obtain ⟨b,off,k,n,d,s,l',o',len',cap',ho,hx,e0,e1,e2,e3,e4,er⟩:=part_atS hv (Below.refl _ _) (j:=0) rfl
 subst ho hx
 simp only[Nat.zero_mul,Nat.add_zero] at e0 e1 e2 e3 e4
 have hbl:=cell_lt e0
 have ER:=Lib.hid er
 obtain ⟨R,hR⟩:∃R,Prims.does 18 [Dat.mk k n d s l']=R:=⟨_,rfl⟩
 rw[hR]
 have HK:=Lib.hid (fun X Y=>((Below.refl w.heap.size w).alloc (Nat.le_refl _) X).alloc (by simp) Y)
 by_cases k6:k=6
 ·subst k6
  obtain ⟨_,a,c,rfl,rfl,rfl,rfl,_,_⟩:=right_pair_at hrx
  have HR:=Lib.hid (show (a,(0:Int))=R by rw[←hR];simp[Prims.does,Dat.kind,Dat.l])
  clear hR hv er
  obtain ⟨sl,hv2,_,_,_,_,hs⟩:=ER.out.open
  simp only[Value.agg.injEq,Array.mk.injEq,List.cons.injEq,and_true,true_and] at hv2
  obtain rfl:=hv2
  have hl2:len'=2:=by obtain ⟨_,_,_,he,h2,_⟩:=hs;simp only[Value.slice.injEq] at he;rw[he.2.1,h2];rfl
  subst hl2
  obtain ⟨b1,off1,k1,n1,d1,s1,l1,o1,len1,cap1,ho1,hx1,f0,f1,f2,f3,f4,fr⟩:=part_atS hs (Below.refl _ _) (j:=0) rfl
  subst ho1
  simp only[Nat.zero_mul,Nat.add_zero] at f0 f1 f2 f3 f4
  have hbl1:=cell_lt f0
  have FR:=Lib.hid fr
  have HX1:=Lib.hid hx1
  clear hs fr hx1
  go_enter Tryz.func100,Tryz.ntmps100
  go_wp2_with fail
  rw[←HR.out]
  refine bodyPost_ret (v:=.tuple #[.agg #[.int .i64 k1,.int .i64 n1,.int .i64 d1,.string s1,.slice o1 len1 cap1],.int .i64 0]) (by simp[results,Tryz.results100,go_sem]) rfl ⟨k1,n1,d1,s1,o1,len1,cap1,rfl,by rw[HX1.out];exact FR.out.kept ((HK.out _ _).mono hB),HK.out _ _⟩
 ·have k6':(k != 6)=true:=by simpa using k6
  have HR:=Lib.hid (show (Prims.zeroD,(1:Int))=R by rw[←hR];simp[Prims.does,Dat.kind,k6])
  clear hR hv er
  go_enter Tryz.func100,Tryz.ntmps100
  go_wp2_with fail
  rw[←HR.out]
  exact bodyPost_ret (v:=.tuple #[leafV 0 0 0,.int .i64 1]) (by simp[results,Tryz.results100,go_sem,leafV]) rfl (endPost_leaf (by omega) (by omega) (by omega) rfl (HK.out _ _))
theorem does_19 (l:List Dat) (sl:Value) (B:Nat) (w:World) (hv:RepS w B l sl) (hB:B≤w.heap.size) (hr:∀x∈l,Dat.right x 0=true) (hl:l.length=1) :
  Calls Tryz.prog 100 #[.int .i64 19,sl] w (EndPost B (Prims.does 19 l) w):=by
 obtain ⟨x,rfl⟩:∃x,l=[x]:=by
  match l,hl with
  | [x],_=>exact ⟨x,rfl⟩
 have hrx:=hr x (by simp)
 obtain ⟨o,len,cap,rfl,hlen,hcap,hmax⟩:=slice_of hv
 obtain rfl:len=1:=hlen
 obtain ⟨b,off,k,n,d,s,l',o',len',cap',ho,hx,e0,e1,e2,e3,e4,er⟩:=part_atS hv (Below.refl _ _) (j:=0) rfl
 subst ho hx
 simp only[Nat.zero_mul,Nat.add_zero] at e0 e1 e2 e3 e4
 have hbl:=cell_lt e0
 have ER:=Lib.hid er
 obtain ⟨R,hR⟩:∃R,Prims.does 19 [Dat.mk k n d s l']=R:=⟨_,rfl⟩
 rw[hR]
 have HK:=Lib.hid (fun X Y=>((Below.refl w.heap.size w).alloc (Nat.le_refl _) X).alloc (by simp) Y)
 by_cases k6:k=6
 ·subst k6
  obtain ⟨_,a,c,rfl,rfl,rfl,rfl,_,_⟩:=right_pair_at hrx
  have HR:=Lib.hid (show (c,(0:Int))=R by rw[←hR];simp[Prims.does,Dat.kind,Dat.l])
  clear hR hv er
  obtain ⟨sl,hv2,_,_,_,_,hs⟩:=ER.out.open
  simp only[Value.agg.injEq,Array.mk.injEq,List.cons.injEq,and_true,true_and] at hv2
  obtain rfl:=hv2
  have hl2:len'=2:=by obtain ⟨_,_,_,he,h2,_⟩:=hs;simp only[Value.slice.injEq] at he;rw[he.2.1,h2];rfl
  subst hl2
  obtain ⟨b1,off1,k1,n1,d1,s1,l1,o1,len1,cap1,ho1,hx1,f0,f1,f2,f3,f4,fr⟩:=part_atS hs (Below.refl _ _) (j:=1) rfl
  subst ho1
  simp only[Nat.one_mul,Nat.add_assoc,Nat.reduceAdd] at f0 f1 f2 f3 f4
  have hbl1:=cell_lt f0
  have FR:=Lib.hid fr
  have HX1:=Lib.hid hx1
  clear hs fr hx1
  go_enter Tryz.func100,Tryz.ntmps100
  go_wp2_with fail
  rw[←HR.out]
  refine bodyPost_ret (v:=.tuple #[.agg #[.int .i64 k1,.int .i64 n1,.int .i64 d1,.string s1,.slice o1 len1 cap1],.int .i64 0]) (by simp[results,Tryz.results100,go_sem]) rfl ⟨k1,n1,d1,s1,o1,len1,cap1,rfl,by rw[HX1.out];exact FR.out.kept ((HK.out _ _).mono hB),HK.out _ _⟩
 ·have k6':(k != 6)=true:=by simpa using k6
  have HR:=Lib.hid (show (Prims.zeroD,(1:Int))=R by rw[←hR];simp[Prims.does,Dat.kind,k6])
  clear hR hv er
  go_enter Tryz.func100,Tryz.ntmps100
  go_wp2_with fail
  rw[←HR.out]
  exact bodyPost_ret (v:=.tuple #[leafV 0 0 0,.int .i64 1]) (by simp[results,Tryz.results100,go_sem,leafV]) rfl (endPost_leaf (by omega) (by omega) (by omega) rfl (HK.out _ _))
end
section
open Go.RowKit
theorem psame_any (x y:Dat) (v u:Value) (B:Nat) (w:World) (hx:Dat.right x 0=true) (hy:Dat.right y 0=true) (hv:RepD w B x v) (hu:RepD w B y u) (hB:B≤w.heap.size) :
  Calls Tryz.prog 118 #[v,u] w fun e w'=>e=.returned (.bool (Prims.eq x y))∧Below w.heap.size w w':=by
 obtain ⟨r,hr⟩:∃r,Prims.eq x y=r:=⟨_,rfl⟩
 obtain ⟨k,n,d,s,o,len,cap,rfl⟩:=agg_of hv
 obtain ⟨k',n',d',s',o',len',cap',rfl⟩:=agg_of hu
 have HC:=Lib.hid (fun W (hb:Below w.heap.size w W)=>same_any x y _ _ B W (hv.kept (hb.mono hB)) (hu.kept (hb.mono hB)) (Nat.le_trans hB hb.size))
 rw[hx,hy,Bool.true_and,Bool.true_and] at HC
 obtain ⟨kx,nx,dx,sx,lx⟩:=x
 obtain ⟨_,he,_⟩:=hv.open
 simp only[Value.agg.injEq,Array.mk.injEq,List.cons.injEq,Value.int.injEq,true_and] at he
 obtain rfl:=he.1
 clear he
 rw[hr]
 obtain ⟨q,hq⟩:∃q,Dat.alike (.mk k nx dx sx lx) y=q:=⟨_,rfl⟩
 rw[hq] at HC
 have HR:=Lib.hid (show (decide (k≠3∧k≠6∧k≠7)&&q)=r by rw[←hr,←hq];rfl)
 clear hr hq hv hu hx hy
 have HK:=Lib.hid (fun X Y=>((Below.refl w.heap.size w).alloc (Nat.le_refl _) X).alloc (by simp) Y)
 by_cases hk:k=3∨k=6∨k=7
 ·obtain rfl:false=r:=by rw[←HR.out,decide_eq_false (by omega)];rfl
  rcases hk with rfl | rfl | rfl
  all_goals
   go_enter Tryz.func118,Tryz.ntmps118
   go_wp2_with fail
   go_ret
   exact ⟨rfl,HK.out _ _⟩
 ·obtain rfl:q=r:=by rw[←HR.out,decide_eq_true (by omega)];simp
  have k3:(k==3)=false:=by simp;omega
  have k6:(k==6)=false:=by simp;omega
  have k7:(k==7)=false:=by simp;omega
  go_enter Tryz.func118,Tryz.ntmps118
  go_wp2_with fail
  have HC2:=HC.out _ (HK.out (.cells #[.int .i64 k,.int .i64 n,.int .i64 d,.string s,.slice o len cap] 45) (.cells #[.int .i64 k',.int .i64 n',.int .i64 d',.string s',.slice o' len' cap'] 45))
  with_reducible refine HC2.mono ?_
  rintro e1 w1 ⟨rfl,hb1⟩
  go_wp2_with fail
  go_ret
  exact ⟨rfl,(HK.out _ _).trans (hb1.mono (by simp;omega))⟩
theorem kind_any (n:Int) (h0:9≤n) (h1:n≤16) (w:World):Calls Tryz.prog 123 #[.int .i64 n] w fun e w'=>e=.returned (.int .i64 (Prims.kinds.getD (n-9).toNat (-1)))∧Below w.heap.size w w':=by
 have hn:n=9∨n=10∨n=11∨n=12∨n=13∨n=14∨n=15∨n=16:=by omega
 rcases hn with rfl | rfl | rfl | rfl | rfl | rfl | rfl | rfl
 ·have hix:(Instr.index 160 (.agg #[.int .i64 4,.int .i64 6,.int .i64 0,.int .i64 2,.int .i64 1,.int .i64 3,.int .i64 7,.int .i64 (-1)]) (.int .i64 0)).run Tryz.prog w=.ok (.int .i64 4) w:=by
   simp[Instr.index,run_underlying Tryz.underlying160,asIntOf,part,go_sem]
  go_enter Tryz.func123,Tryz.ntmps123
  go_wp2_with fail
  go_ret
  exact ⟨rfl,Below.refl _ _⟩
 ·have hix:(Instr.index 160 (.agg #[.int .i64 4,.int .i64 6,.int .i64 0,.int .i64 2,.int .i64 1,.int .i64 3,.int .i64 7,.int .i64 (-1)]) (.int .i64 1)).run Tryz.prog w=.ok (.int .i64 6) w:=by
   simp[Instr.index,run_underlying Tryz.underlying160,asIntOf,part,go_sem]
  go_enter Tryz.func123,Tryz.ntmps123
  go_wp2_with fail
  go_ret
  exact ⟨rfl,Below.refl _ _⟩
 ·have hix:(Instr.index 160 (.agg #[.int .i64 4,.int .i64 6,.int .i64 0,.int .i64 2,.int .i64 1,.int .i64 3,.int .i64 7,.int .i64 (-1)]) (.int .i64 2)).run Tryz.prog w=.ok (.int .i64 0) w:=by
   simp[Instr.index,run_underlying Tryz.underlying160,asIntOf,part,go_sem]
  go_enter Tryz.func123,Tryz.ntmps123
  go_wp2_with fail
  go_ret
  exact ⟨rfl,Below.refl _ _⟩
 ·have hix:(Instr.index 160 (.agg #[.int .i64 4,.int .i64 6,.int .i64 0,.int .i64 2,.int .i64 1,.int .i64 3,.int .i64 7,.int .i64 (-1)]) (.int .i64 3)).run Tryz.prog w=.ok (.int .i64 2) w:=by
   simp[Instr.index,run_underlying Tryz.underlying160,asIntOf,part,go_sem]
  go_enter Tryz.func123,Tryz.ntmps123
  go_wp2_with fail
  go_ret
  exact ⟨rfl,Below.refl _ _⟩
 ·have hix:(Instr.index 160 (.agg #[.int .i64 4,.int .i64 6,.int .i64 0,.int .i64 2,.int .i64 1,.int .i64 3,.int .i64 7,.int .i64 (-1)]) (.int .i64 4)).run Tryz.prog w=.ok (.int .i64 1) w:=by
   simp[Instr.index,run_underlying Tryz.underlying160,asIntOf,part,go_sem]
  go_enter Tryz.func123,Tryz.ntmps123
  go_wp2_with fail
  go_ret
  exact ⟨rfl,Below.refl _ _⟩
 ·have hix:(Instr.index 160 (.agg #[.int .i64 4,.int .i64 6,.int .i64 0,.int .i64 2,.int .i64 1,.int .i64 3,.int .i64 7,.int .i64 (-1)]) (.int .i64 5)).run Tryz.prog w=.ok (.int .i64 3) w:=by
   simp[Instr.index,run_underlying Tryz.underlying160,asIntOf,part,go_sem]
  go_enter Tryz.func123,Tryz.ntmps123
  go_wp2_with fail
  go_ret
  exact ⟨rfl,Below.refl _ _⟩
 ·have hix:(Instr.index 160 (.agg #[.int .i64 4,.int .i64 6,.int .i64 0,.int .i64 2,.int .i64 1,.int .i64 3,.int .i64 7,.int .i64 (-1)]) (.int .i64 6)).run Tryz.prog w=.ok (.int .i64 7) w:=by
   simp[Instr.index,run_underlying Tryz.underlying160,asIntOf,part,go_sem]
  go_enter Tryz.func123,Tryz.ntmps123
  go_wp2_with fail
  go_ret
  exact ⟨rfl,Below.refl _ _⟩
 ·have hix:(Instr.index 160 (.agg #[.int .i64 4,.int .i64 6,.int .i64 0,.int .i64 2,.int .i64 1,.int .i64 3,.int .i64 7,.int .i64 (-1)]) (.int .i64 7)).run Tryz.prog w=.ok (.int .i64 (-1)) w:=by
   simp[Instr.index,run_underlying Tryz.underlying160,asIntOf,part,go_sem]
  go_enter Tryz.func123,Tryz.ntmps123
  go_wp2_with fail
  go_ret
  exact ⟨rfl,Below.refl _ _⟩
theorem zero_rep (B:Nat) (w:World):RepD w B Prims.zeroD (leafV 0 0 0):=rep_leaf 0 0 0 ⟨#[]⟩ (by omega) (by omega) (by omega) (by decide)
theorem slice_at {w:World} {B:Nat} {l:List Dat} {v:Value} (h:RepS w B l v):∃o len cap,v=.slice o len cap∧len=l.length∧len≤cap∧cap≤9223372036854775807:=by
 obtain ⟨o,len,cap,h1,h2,h3,h4,_⟩:=h
 exact ⟨o,len,cap,h1,h2,h3,h4⟩
theorem at_any (x y:Dat) (v u:Value) (B:Nat) (w:World) (hv:RepD w B x v) (hu:RepD w B y u) :
  ∃(k n d:Int) (s:ByteArray) (o:Option Addr) (len cap:Nat),RepD w B (Prims.at' x y).1 (.agg #[.int .i64 k,.int .i64 n,.int .i64 d,.string s,.slice o len cap])∧∀W,Below B w W→B≤W.heap.size →
   Calls Tryz.prog 120 #[v,u] W fun e w'=>e=.returned (.tuple #[.agg #[.int .i64 k,.int .i64 n,.int .i64 d,.string s,.slice o len cap],.int .i64 (Prims.at' x y).2])∧Below W.heap.size W w':=by
 obtain ⟨kx,nx,dx,sx,lx⟩:=x
 obtain ⟨ky,ny,dy,sy,ly⟩:=y
 obtain ⟨sl,rfl,_,_,_,_,hs⟩:=hv.open
 obtain ⟨sm,rfl,_,bn,bd,_,hsm⟩:=hu.open
 have HS:=Lib.hid hs
 obtain ⟨o,len,cap,rfl,hl,hcap,hmax⟩:=slice_at hs
 obtain ⟨om,lenm,capm,rfl,hlm⟩:=slice_at hsm
 have HV:=Lib.hid hv
 have HU:=Lib.hid hu
 have HL:=Lib.hid hl
 clear hlm hsm hs hv hu hl
 by_cases hb:kx≠7∨ky≠0
 ·have h1:Prims.at' (.mk kx nx dx sx lx) (.mk ky ny dy sy ly)=(Prims.zeroD,1):=by rw[Prims.at',if_pos (show (Dat.mk kx nx dx sx lx).kind≠7∨(Dat.mk ky ny dy sy ly).kind≠0 from hb)]
  rcases (by omega:kx≠7∨(kx=7∧ky≠0)) with hk | ⟨rfl,hk⟩
  all_goals have hk':=hk
  ·have k7:(kx != 7)=true:=by simpa using hk
   refine ⟨0,0,0,⟨#[]⟩,none,0,0,by rw[h1];exact zero_rep _ _,fun W hW hBW=>?_⟩
   rw[h1]
   have HK:=Lib.hid (fun X Y Z=>(((Below.refl W.heap.size W).alloc (Nat.le_refl _) X).alloc (by simp) Y).alloc (by simp;omega) Z)
   clear h1 HS HV HU hb
   go_enter Tryz.func120,Tryz.ntmps120
   go_wp2_with fail
   exact bodyPost_ret (v:=.tuple #[leafV 0 0 0,.int .i64 1]) (by simp[results,Tryz.results120,go_sem,leafV]) rfl ⟨rfl,HK.out _ _ _⟩
  ·have k0:(ky != 0)=true:=by simpa using hk
   refine ⟨0,0,0,⟨#[]⟩,none,0,0,by rw[h1];exact zero_rep _ _,fun W hW hBW=>?_⟩
   rw[h1]
   have HK:=Lib.hid (fun X Y Z=>(((Below.refl W.heap.size W).alloc (Nat.le_refl _) X).alloc (by simp) Y).alloc (by simp;omega) Z)
   clear h1 HS HV HU hb
   go_enter Tryz.func120,Tryz.ntmps120
   go_wp2_with fail
   exact bodyPost_ret (v:=.tuple #[leafV 0 0 0,.int .i64 1]) (by simp[results,Tryz.results120,go_sem,leafV]) rfl ⟨rfl,HK.out _ _ _⟩
 obtain ⟨rfl,rfl⟩:kx=7∧ky=0:=by omega
 by_cases hc:dy≠1∨ny<0∨(len:Int)≤ny
 ·have h1:Prims.at' (.mk 7 nx dx sx lx) (.mk 0 ny dy sy ly)=(Prims.zeroD,3):=by
   rw[Prims.at',if_neg (show ¬((Dat.mk 7 nx dx sx lx).kind≠7∨(Dat.mk 0 ny dy sy ly).kind≠0) from hb),if_pos (by show dy≠1∨ny<0∨(lx.length:Int)≤ny;rw[←HL.out];exact hc)]
  clear hb
  rcases (by omega:dy≠1∨(dy=1∧ny<0)∨(dy=1∧0≤ny∧(len:Int)≤ny)) with hk | ⟨rfl,hk⟩ | ⟨rfl,hk0,hk⟩
  ·have k7:(dy != 1)=true:=by simpa using hk
   refine ⟨0,0,0,⟨#[]⟩,none,0,0,by rw[h1];exact zero_rep _ _,fun W hW hBW=>?_⟩
   rw[h1]
   have HK:=Lib.hid (fun X Y Z=>(((Below.refl W.heap.size W).alloc (Nat.le_refl _) X).alloc (by simp) Y).alloc (by simp;omega) Z)
   clear h1 HS HV HU
   go_enter Tryz.func120,Tryz.ntmps120
   go_wp2_with fail
   exact bodyPost_ret (v:=.tuple #[leafV 0 0 0,.int .i64 3]) (by simp[results,Tryz.results120,go_sem,leafV]) rfl ⟨rfl,HK.out _ _ _⟩
  ·have k7:decide (ny<0)=true:=by simpa using hk
   refine ⟨0,0,0,⟨#[]⟩,none,0,0,by rw[h1];exact zero_rep _ _,fun W hW hBW=>?_⟩
   rw[h1]
   have HK:=Lib.hid (fun X Y Z=>(((Below.refl W.heap.size W).alloc (Nat.le_refl _) X).alloc (by simp) Y).alloc (by simp;omega) Z)
   clear h1 HS HV HU
   go_enter Tryz.func120,Tryz.ntmps120
   go_wp2_with fail
   exact bodyPost_ret (v:=.tuple #[leafV 0 0 0,.int .i64 3]) (by simp[results,Tryz.results120,go_sem,leafV]) rfl ⟨rfl,HK.out _ _ _⟩
  ·have k7:decide (ny<0)=false:=by simpa using hk0
   have k8:decide ((len:Int)≤ny)=true:=by simpa using hk
   refine ⟨0,0,0,⟨#[]⟩,none,0,0,by rw[h1];exact zero_rep _ _,fun W hW hBW=>?_⟩
   rw[h1]
   have HK:=Lib.hid (fun X Y Z=>(((Below.refl W.heap.size W).alloc (Nat.le_refl _) X).alloc (by simp) Y).alloc (by simp;omega) Z)
   clear h1 HS HV HU
   go_enter Tryz.func120,Tryz.ntmps120
   go_wp2_with fail
   exact bodyPost_ret (v:=.tuple #[leafV 0 0 0,.int .i64 3]) (by simp[results,Tryz.results120,go_sem,leafV]) rfl ⟨rfl,HK.out _ _ _⟩
 ·obtain ⟨rfl,hn0,hn1⟩:dy=1∧0≤ny∧ny<(len:Int):=by omega
  obtain ⟨j,rfl⟩:∃j:Nat,ny=j:=⟨ny.toNat,by omega⟩
  have hjl:j<len:=by omega
  obtain ⟨z,hz⟩:∃z,lx[j]?=some z:=⟨_,List.getElem?_eq_getElem (by rw[←HL.out];exact hjl)⟩
  have h1:Prims.at' (.mk 7 nx dx sx lx) (.mk 0 j 1 sy ly)=(z,0):=by
   rw[Prims.at',if_neg (show ¬((Dat.mk 7 nx dx sx lx).kind≠7∨(Dat.mk 0 (j:Int) 1 sy ly).kind≠0) from hb),if_neg (by show ¬((1:Int)≠1∨(j:Int)<0∨(lx.length:Int)≤j);rw[←HL.out];omega)]
   show (lx.getD (j:Int).toNat Prims.zeroD,(0:Int))=(z,0)
   rw[Int.toNat_natCast,List.getD_eq_getElem?_getD,hz];rfl
  rw[h1]
  obtain ⟨b1,off1,k1,n1,d1,s1,l1,o1,len1,cap1,ho1,hx1,f0,f1,f2,f3,f4,fr⟩:=part_atS HS.out (Below.refl _ _) hz
  subst ho1 hx1
  have FR:=Lib.hid fr
  refine ⟨k1,n1,d1,s1,o1,len1,cap1,FR.out,fun W hW hBW=>?_⟩
  obtain ⟨b2,off2,k2,n2,d2,s2,l2,o2,len2,cap2,ho2,hx2,g0,g1,g2,g3,g4,gr⟩:=part_atS HS.out hW hz
  have hbB:b1<B:=by
   obtain ⟨_,_,_,he,_,_,_,h2⟩:=HS.out
   simp only[Value.slice.injEq] at he
   obtain ⟨rfl,_,_⟩:=he
   exact (h2.1 (by intro h;rw[h] at hz;simp at hz)).2
  have q0:=(hW.cell (p:=⟨b1,off1+j*5,none⟩) hbB).trans f0
  have q1:=(hW.cell (p:=⟨b1,off1+j*5+1,none⟩) hbB).trans f1
  have q2:=(hW.cell (p:=⟨b1,off1+j*5+2,none⟩) hbB).trans f2
  have q3:=(hW.cell (p:=⟨b1,off1+j*5+3,none⟩) hbB).trans f3
  have q4:=(hW.cell (p:=⟨b1,off1+j*5+4,none⟩) hbB).trans f4
  have hbl:=cell_lt q0
  have hbl1:b1<W.heap.size+1:=by omega
  have hbl2:b1<W.heap.size+1+1:=by omega
  have hbl3:b1<W.heap.size+2:=by omega
  have k7:decide ((j:Int)<0)=false:=by simp
  have k8:decide ((len:Int)≤(j:Int))=false:=by simp;omega
  have HK:=Lib.hid (fun X Y Z=>(((Below.refl W.heap.size W).alloc (Nat.le_refl _) X).alloc (by simp) Y).alloc (by simp;omega) Z)
  clear h1 HS HV HU hb hc hz ho2 hx2 g0 g1 g2 g3 g4 gr f0 f1 f2 f3 f4 fr FR hbB hW
  go_enter Tryz.func120,Tryz.ntmps120
  go_wp2_with fail
  exact bodyPost_ret (v:=.tuple #[.agg #[.int .i64 k1,.int .i64 n1,.int .i64 d1,.string s1,.slice o1 len1 cap1],.int .i64 0]) (by simp[results,Tryz.results120,go_sem]) rfl ⟨rfl,HK.out _ _ _⟩
end
section
open Go Go.RowKit
theorem sfits_binds (f t op n:Int) (ov ot:Option Addr) (lv cv lt ct:Nat) (hop:op≠4) (hlt:lt≤ct) (hct:ct≤9223372036854775807) (hlv:lv≤cv) (hcv:cv≤9223372036854775807) (w:World) :
  Calls Tryz.prog 62 #[.agg #[.int .i64 f,.int .i64 t,.int .i64 0,.bool false,.bool true],.agg #[.int .i64 op,.int .i64 n,.slice ov lv cv,.slice ot lt ct]] w fun e w'=>e=.returned (.bool (decide (lt=lv+1)))∧Below w.heap.size w w':=by
 have f4:(op != 4)=true:=by simpa using hop
 have hb:Below w.heap.size w ((w.alloc (.cells #[.int .i64 f,.int .i64 t,.int .i64 0,.bool false,.bool true] 87)).alloc (.cells #[.int .i64 op,.int .i64 n,.slice ov lv cv,.slice ot lt ct] 26)):=(Below.one w _).trans ((Below.one _ _).mono (by simp))
 have HB:=Lib.hid hb
 clear hb hop
 by_cases hm:lv=9223372036854775807
 ·subst hm
  have e1:decide (lt=9223372036854775807+1)=false:=by simp;omega
  have e3:IntKind.i64.wrap 9223372036854775808 = -9223372036854775808:=by decide
  rw[e1]
  have e2:((lt:Int) == -9223372036854775808)=false:=by simp
  go_enter Tryz.func62,Tryz.ntmps62
  go_wp2_with fail
  go_ret
  exact ⟨rfl,HB.out⟩
 ·by_cases he:lt=lv+1
  ·subst he
   have e1:decide (lv+1=lv+1)=true:=by simp
   rw[e1]
   have e2:(((lv+1:Nat):Int)==(lv:Int)+1)=true:=by simp
   go_enter Tryz.func62,Tryz.ntmps62
   go_wp2_with fail
   go_ret
   exact ⟨rfl,HB.out⟩
  ·rw[decide_eq_false he]
   have e2:((lt:Int)==(lv:Int)+1)=false:=by simp;omega
   go_enter Tryz.func62,Tryz.ntmps62
   go_wp2_with fail
   go_ret
   exact ⟨rfl,HB.out⟩
theorem sfits_lam (f t n:Int) (ov ot:Option Addr) (lv cv lt ct:Nat) (w:World) :
  Calls Tryz.prog 62 #[.agg #[.int .i64 f,.int .i64 t,.int .i64 1,.bool false,.bool true],.agg #[.int .i64 4,.int .i64 n,.slice ov lv cv,.slice ot lt ct]] w fun e w'=>e=.returned (.bool (decide (lt=1)))∧Below w.heap.size w w':=by
 have hb:Below w.heap.size w ((w.alloc (.cells #[.int .i64 f,.int .i64 t,.int .i64 1,.bool false,.bool true] 87)).alloc (.cells #[.int .i64 4,.int .i64 n,.slice ov lv cv,.slice ot lt ct] 26)):=(Below.one w _).trans ((Below.one _ _).mono (by simp))
 have HB:=Lib.hid hb
 clear hb
 by_cases he:lt=1
 ·subst he
  go_enter Tryz.func62,Tryz.ntmps62
  go_wp2_with fail
  go_ret
  exact ⟨rfl,HB.out⟩
 ·have e1:decide (lt=1)=false:=decide_eq_false he
  have e2:((lt:Int)==1)=false:=by simp;omega
  rw[e1]
  go_enter Tryz.func62,Tryz.ntmps62
  go_wp2_with fail
  go_ret
  exact ⟨rfl,HB.out⟩
theorem sfits_plain (f t op n:Int) (least:Nat) (any:Bool) (ov ot:Option Addr) (lv cv lt ct:Nat) (w:World) :
  Calls Tryz.prog 62 #[.agg #[.int .i64 f,.int .i64 t,.int .i64 least,.bool any,.bool false],.agg #[.int .i64 op,.int .i64 n,.slice ov lv cv,.slice ot lt ct]] w fun e w'=>e=.returned (.bool ((decide (lt=least) || (any&&decide (least≤lt)))&&decide (lv=0)))∧Below w.heap.size w w':=by
 have hb:Below w.heap.size w ((w.alloc (.cells #[.int .i64 f,.int .i64 t,.int .i64 least,.bool any,.bool false] 87)).alloc (.cells #[.int .i64 op,.int .i64 n,.slice ov lv cv,.slice ot lt ct] 26)):=(Below.one w _).trans ((Below.one _ _).mono (by simp))
 have HB:=Lib.hid hb
 clear hb
 obtain ⟨q0,hq0⟩:∃q0,decide (lv=0)=q0:=⟨_,rfl⟩
 have g0:((lv:Int)==0)=q0:=by rw[←hq0];rw[Bool.eq_iff_iff];simp
 rw[hq0]
 clear hq0
 by_cases he:lt=least
 ·have e1:decide (lt=least)=true:=decide_eq_true he
  have e2:((lt:Int)==(least:Int))=true:=by simp[he]
  rw[e1,Bool.true_or,Bool.true_and]
  clear he
  cases q0<;>(go_enter Tryz.func62,Tryz.ntmps62;go_wp2_with fail;go_ret;exact ⟨rfl,HB.out⟩)
 ·have e1:decide (lt=least)=false:=decide_eq_false he
  have e2:((lt:Int)==(least:Int))=false:=by simp;omega
  rw[e1,Bool.false_or]
  clear he
  cases any with
  | false=>
   rw[Bool.false_and,Bool.false_and]
   cases q0<;>(go_enter Tryz.func62,Tryz.ntmps62;go_wp2_with fail;go_ret;exact ⟨rfl,HB.out⟩)
  | true=>
   obtain ⟨q1,hq1⟩:∃q1,decide (least≤lt)=q1:=⟨_,rfl⟩
   have g1:decide ((least:Int)≤lt)=q1:=by rw[←hq1];rw[Bool.eq_iff_iff];simp
   rw[hq1,Bool.true_and]
   cases q1<;>cases q0<;>(go_enter Tryz.func62,Tryz.ntmps62;go_wp2_with fail;go_ret;exact ⟨rfl,HB.out⟩)
end
section
open Go Go.RowKit
def StL (Ph:Array Bool→Act→World→Prop) (R:Array Bool→Nat→Value→World→Prop) (listed:Array Bool) (i:Nat) (o:Oper) (a:Act) (w1:World) (a':Act) (w':World):Prop:=∃v,a'=a.put o.dst v∧R (listed.setIfInBounds i true) i v w'∧Ph (listed.setIfInBounds i true) a' w'∧∀j u,j≠i→listed.getD j false=true→R listed j u w1→R (listed.setIfInBounds i true) j u w'
theorem wp_region_stL {P:Program} {id:Nat} {Q:Exit→Act→World→Prop} {a0:Act} {w:World} {l:List Oper} (n:Nat) (Ph:Array Bool→Act→World→Prop) (R:Array Bool→Nat→Value→World→Prop) (hm:P.follows .mixedOrders=true) (hB:monoB l.toArray n a0.tmps.size=true)
  (h0:Ph (Array.replicate l.toArray.size false) a0 w.drew)
  (hops:∀i o,i<n→l.toArray[i]?=some o→∀(listed:Array Bool) (a:Act) (w1:World),i<listed.size→(∀e∈o.after,Region.binds .any e=true→listed.getD e.on false=true)→Ph listed a w1→listed.getD i false=false→DepsF l.toArray n (R listed) o a w1→Rest l.toArray n a0 a→a.tmps.size=a0.tmps.size→o.wp P a w1 (StL Ph R listed i o a w1) Q)
  (hend:∀(listed:Array Bool) a w1,a.defers=a0.defers→a.tmps.size=a0.tmps.size→(∀i,i<n→listed.getD i false=true)→Ph listed a w1→(∀i o d,i<n→l.toArray[i]?=some o→o.dst=some d→R listed i (a.tmps.getD d undef) w1)→Rest l.toArray n a0 a→wpList P l.toArray Q (l.drop n) a w1) :
  (Code.region id l.toArray true).wp P Q a0 w:=by
 have hB':=hB
 simp only[monoB,monoG,Bool.and_eq_true,decide_eq_true_eq] at hB'
 obtain ⟨⟨_,_,_,hn,hsl,_⟩,hgd⟩:=hB'
 refine wp_region_invF n (fun listed a W=>Ph listed a W∧∀i o d,i<n→l.toArray[i]?=some o→listed.getD i false=true→o.dst=some d→R listed i (a.tmps.getD d undef) W) hm hB ⟨h0,fun i o d _ _ h=>by rw[getD_replicate_false] at h;cases h⟩ ?_ ?_
 ·intro i o hi ho listed a w1 hls hdf hsz hrest ⟨hph,hval⟩ hun hdeps
  have hlt:i<listed.size:=by rw[hls];omega
  refine Oper.wp_mono ?_ (hops i o hi ho listed a w1 hlt hdeps hph hun (fun j oj d hj hoj ⟨e,he,hb,hon⟩ hd=>hval j oj d hj hoj (by have:=hdeps e he hb;rwa[hon] at this) hd) hrest hsz)
  rintro a' w' ⟨v,rfl,hv,hx,hkeep⟩
  refine ⟨v,rfl,hx,fun j oj d hj hoj hl hd=>?_⟩
  by_cases e:i=j
  ·subst e
   obtain rfl:oj=o:=Option.some.inj (hoj.symm.trans ho)
   have hd':=(slotsF_at hsl hi hi ho ho hd hd).1
   rw[hd,put_getD (by rw[hsz];exact hd'),if_pos rfl]
   exact hv
  ·rw[getD_set_ne false e] at hl
   have hold:=hval j oj d hj hoj hl hd
   have hsame:(a.put o.dst v).tmps.getD d undef=a.tmps.getD d undef:=by
    cases hdo:o.dst with
    | none=>rfl
    | some d'=>
     obtain ⟨hd',hne⟩:=slotsF_at hsl hi hj ho hoj hdo hd
     rw[put_getD (by rw[hsz];exact hd'),if_neg (hne.resolve_left e)]
   rw[hsame]
   exact hkeep j _ (fun h=>e h.symm) hl hold
 ·intro listed a w1 hall hdf hsz hrest ⟨hph,hval⟩
  exact hend listed a w1 hdf hsz hall hph (fun i o d hi ho hd=>hval i o d hi ho (hall i hi) hd) hrest
end
end Go.Proofs.YtgbibibmpoekiaaGreatDoor
