/- .. -/
import Derived.Deep.RegionLaw
import Derived.Test.YtdcajmeeeoofgaaGreatDoorFmbA17
open Go.Proofs.Tryz
set_option maxRecDepth 100000
set_option maxHeartbeats 16000000
namespace Go.Proofs.YtdcajmeeeoofgaaGreatDoor
section
open Go Go.RowKit
structure RCk (W:World) (base cb:Nat) (bsl:Value) (nc nk:Int) (fr:Bool) (size:Int) (l:List Int) (ok:Bool):Prop where
 box:BoxL W cb 81 [.int .i64 3,.int .i64 nc,.int .i64 nk,.bool fr,.int .i64 size,bsl,.bool ok]
 row:W.ownsRow base 3 1 bsl l.length (l.map (Value.int .i64))
 ints:∀x∈l,I64 x
def SR (cb:Nat) (bsl:Value) (b:Nat):Prop:=b=cb∨bsl.ownBlock=some b
theorem RCk.keep {W W':World} {base cb:Nat} {bsl:Value} {nc nk:Int} {fr:Bool} {size:Int} {l:List Int} {ok:Bool} (h:RCk W base cb bsl nc nk fr size l ok) (hb:Below W.heap.size W W'):RCk W' base cb bsl nc nk fr size l ok:=⟨h.box.keep hb,zam h.row hb,h.ints⟩
theorem RCk.ne {W:World} {base cb:Nat} {bsl:Value} {nc nk:Int} {fr:Bool} {size:Int} {l:List Int} {ok:Bool} (h:RCk W base cb bsl nc nk fr size l ok):bsl.ownBlock≠some cb:=fun e=>by
 obtain ⟨cs,f,hc⟩:=zaF h.row cb e
 rw[show W.heap[cb]?=_ from h.box] at hc
 simp at hc
theorem RCk.form {W:World} {base cb:Nat} {bsl:Value} {nc nk:Int} {fr:Bool} {size:Int} {l:List Int} {ok:Bool} (h:RCk W base cb bsl nc nk fr size l ok):∃o c,bsl=.slice o l.length c:=by
 rcases h.row.2 with ⟨h1,h2⟩ | ⟨g,cap,cur,h1,_⟩
 ·rw[h1]
  have:l.length=0:=by
   have:=h2
   first | exact this | exact this.1 | omega
  rw[this]
  exact ⟨_,_,rfl⟩
 ·exact ⟨_,_,h1⟩
theorem RCk.failed {W:World} {base cb:Nat} {bsl:Value} {nc nk:Int} {fr:Bool} {size:Int} {l:List Int} {ok:Bool} (h:RCk W base cb bsl nc nk fr size l ok) (q:Bool):RCk (W.setCell ⟨cb,6,none⟩ (.bool q)) base cb bsl nc nk fr size l q:=
 ⟨h.box.set 6 _,zaV h.row _ _ (fun r hr e=>h.ne (by have e:r=cb:=e;rw[←e];exact hr)),h.ints⟩
theorem zkO (w:World) (x:Int):(Instr.buildSlice 24 1 #[(0,.int .i64 x)]).run prog w=.ok (.slice (some ⟨w.heap.size,0,none⟩) 1 1) (w.alloc (.cells #[.int .i64 x] 3)):=by go_simp
def RBiR (base cb j n:Nat) (lj:List Int) (x:Int) (bsl vsl:Value) (ad:Addr) (S:Nat) (i:Nat) (v:Value) (W:World):Prop:=match i with
 | 3=>v=.pointer (some ⟨cb,5,none⟩)
 | 4=>v=bsl
 | 5=>v=vsl
 | 6=>v=.int .i64 j
 | 7=>v=.pointer (some ad)
 | 8=>v=.int .i64 x
 | 9=>∃b,v=.slice (some ⟨b,0,none⟩) 1 1∧BoxL W b 3 [.int .i64 x]
 | 10=>∃(g cap:Nat),v=.slice (some ⟨g,0,none⟩) (n+1) cap∧W.ownsRow base 3 1 (.slice (some ⟨g,0,none⟩) (n+1) cap) (n+1) (lj.map (Value.int .i64)++([.int .i64 x]:List Value))∧(bsl.ownBlock=some g∨S≤g)
 | 12=>v=.pointer (some ⟨cb,5,none⟩)
 | _=>v=.pointer (some ⟨cb,0,none⟩)
theorem zdk {base cb j n:Nat} {lj:List Int} {x:Int} {bsl vsl:Value} {ad:Addr} {S:Nat}:∀i v (A C:World),i≠10→(i==9)=false→RBiR base cb j n lj x bsl vsl ad S i v A→RBiR base cb j n lj x bsl vsl ad S i v C:=by
 intro i v A C hi hu h
 match i,hi,hu,h with
 | 0,_,_,h | 1,_,_,h | 2,_,_,h | 3,_,_,h | 4,_,_,h | 5,_,_,h | 6,_,_,h | 7,_,_,h | 8,_,_,h | 11,_,_,h | 12,_,_,h | i+13,_,_,h=>exact h
theorem zes {base cb j n:Nat} {lj:List Int} {x:Int} {bsl vsl:Value} {ad:Addr} {S:Nat}:∀i v (A C:World),i=9→RBiR base cb j n lj x bsl vsl ad S i v A→Below A.heap.size A C→RBiR base cb j n lj x bsl vsl ad S i v C:=by
 rintro i v A C rfl ⟨b,h1,h2⟩ hb
 exact ⟨b,h1,h2.keep hb⟩
theorem ze7 {base cb j n:Nat} {lj:List Int} {x:Int} {bsl vsl:Value} {ad:Addr} {S:Nat}:∀v (A C:World),RBiR base cb j n lj x bsl vsl ad S 10 v A→Below A.heap.size A C→RBiR base cb j n lj x bsl vsl ad S 10 v C:=by
 rintro v A C ⟨g,cap,h1,h2,h3⟩ hb
 exact ⟨g,cap,h1,zam h2 hb,h3⟩
theorem zd2 {W5 w1:World} {base cb n g cap:Nat} {bsl:Value} {nc nk size x:Int} {fr ok:Bool} {lj:List Int} (hc:RCk W5 base cb bsl nc nk fr size lj ok) (ht:Turned (fun b=>bsl.ownBlock=some b) W5 w1) (hown:w1.ownsRow base 3 1 (.slice (some ⟨g,0,none⟩) (n+1) cap) (n+1) (lj.map (Value.int .i64)++([.int .i64 x]:List Value))) (hlie:bsl.ownBlock=some g∨W5.heap.size≤g) (hx:I64 x) (hn:n=lj.length) :
  RCk (w1.setCell ⟨cb,5,none⟩ (.slice (some ⟨g,0,none⟩) (n+1) cap)) base cb (.slice (some ⟨g,0,none⟩) (n+1) cap) nc nk fr size (lj++[x]) ok∧Turned (SR cb bsl) W5 (w1.setCell ⟨cb,5,none⟩ (.slice (some ⟨g,0,none⟩) (n+1) cap))∧∀b,b<W5.heap.size→SR cb (.slice (some ⟨g,0,none⟩) (n+1) cap) b→SR cb bsl b:=by
 have hbx:=ht.box hc.box (fun h=>hc.ne h)
 refine ⟨⟨hbx.set 5 _,?_,fun y hy=>?_⟩,(ht.wider fun b _ h=>.inr h).next (Turned.set _ _ _ (.inl rfl)),fun b hb h=>?_⟩
 ·have h1:w1.ownsRow base 3 1 (.slice (some ⟨g,0,none⟩) (n+1) cap) (lj++[x]).length ((lj++[x]).map (Value.int .i64)):=by
   rw[List.length_append,List.map_append,←hn]
   exact hown
  refine zaV h1 _ _ (fun r hr e=>?_)
  have e:r=cb:=e
  obtain ⟨cs,f,hcc⟩:=zaF h1 r hr
  rw[e,show w1.heap[cb]?=_ from hbx] at hcc
  simp at hcc
 ·rcases List.mem_append.1 hy with hy | hy
  ·exact hc.ints y hy
  ·rw[List.mem_singleton.1 hy];exact hx
 ·rcases h with h | h
  ·exact .inl h
  ·simp only[Value.ownBlock,Option.some.injEq] at h
   subst h
   rcases hlie with h | h
   ·exact .inr h
   ·omega
theorem zgK {l:List Int} {x:Int} (h:Trm.newB (fun _=>false) l=true):Trm.newB (fun _=>false) (l++[x])=(decide (0≤x)&&(decide (x≤1000000) && !l.contains x)):=by
 rw[Trm.newB_append,h,Bool.true_and,Trm.newB,Trm.newB,Bool.and_true]
 simp[Trm.addV]
def RPost (base cb:Nat) (bsl:Value) (nc nk:Int) (fr:Bool) (size:Int) (q:Bool) (l:List Int) (w:World) (e:Ending) (w':World):Prop:=
 e=.returned (.tuple #[])∧∃bsl',Turned (SR cb bsl) w w'∧(∀b,b<w.heap.size→SR cb bsl' b→SR cb bsl b)∧(q=true→RCk w' base cb bsl' nc nk fr size l true)∧(q=false→∃size' l',RCk w' base cb bsl' nc nk fr size' l' false)
theorem zew (base cb:Nat) (bsl:Value) (nc nk size:Int) (fr:Bool) (l v:List Int) (ov:Option Addr) (lv cv B:Nat) (w:World) (hc:RCk w base cb bsl nc nk fr size l true) (hv:SlC w B 1 IntR v (.slice ov lv cv)) (hB:B≤w.heap.size) (hS:∀b,SR cb bsl b→B≤b) (hbase:B≤base∧base≤w.heap.size) (hn:Trm.newB (fun _=>false) l=true) :
  Calls prog 37 #[.pointer (some ⟨cb,0,none⟩),.slice ov lv cv] w (RPost base cb bsl nc nk fr size (Trm.newB (fun _=>false) (l++v)) (l++v) w):=by
 have HC:=zh hc
 have HV:=zh hv
 have HSB:=zh hS
 have HLV:=zh hv.lens.1
 have hlc:=hv.lens.2
 have HN:=zh hn
 clear hc hv hS hn
 obtain ⟨q,hq⟩:∃q,Trm.newB (fun _=>false) (l++v)=q:=⟨_,rfl⟩
 rw[hq]
 have HQ:=zh hq
 clear hq
 go_enter func37,ntmps37
 go_wp2_with fail
 go_loopg [4] lv (fun g i wr=>∃(j:Nat) (bs:Value) (ok:Bool) (lj:List Int),g=lv-j∧j≤lv∧i=.int .i64 j∧Hid (RCk wr base cb bs nc nk fr size lj ok)∧Hid (ok=true→lj=l++v.take j)∧Hid (Trm.newB (fun _=>false) (l++v.take j)=ok)∧Hid (Turned (SR cb bsl) w wr)∧Hid (∀b,b<w.heap.size→SR cb bs b→SR cb bsl b))
 case atStart=>exact ⟨0,bsl,true,l,rfl,by omega,rfl,HC,zh (fun _=>by simp),zh (by simpa using HN.out),zh (Turned.refl _ _),zh (fun _ _ h=>h)⟩
 case round=>
  obtain ⟨j,bs,ok,lj,rfl,hj,rfl,HCJ,HLJ,HOK,HT,HSS⟩:=hrel
  have c6:=HCJ.out.box.cell 6 rfl
  have cl:=HCJ.out.box.lt
  cases ok with
  | false=>
   obtain rfl:q=false:=by
    rw[←HQ.out]
    cases h:Trm.newB (fun _=>false) (l++v) with
    | false=>rfl
    | true=>
     have h2:l++v=(l++v.take j)++v.drop j:=by rw[List.append_assoc,List.take_append_drop]
     rw[h2] at h
     have h3:=zaO h
     rw[HOK.out] at h3
     cases h3
   by_cases hjl:j<lv
   ·go_wp2_with fail
    first | go_end0 | skip
    exact ⟨rfl,bs,HT.out,HSS.out,fun h=>(by cases h),fun _=>⟨_,_,HCJ.out⟩⟩
   ·go_wp2_with fail
    first | go_end0 | skip
    exact ⟨rfl,bs,HT.out,HSS.out,fun h=>(by cases h),fun _=>⟨_,_,HCJ.out⟩⟩
  | true=>
   by_cases hjl:j<lv
   ·obtain ⟨x,hx⟩:∃x,v[j]?=some x:=⟨_,List.getElem?_eq_getElem (by rw[←HLV.out];exact hjl)⟩
    obtain ⟨vb,voff,cs,ho,hvb,hcl,hcell,hir⟩:=HV.out.at (HT.out.below HSB.out hB) hx
    subst ho
    obtain ⟨rfl,hxi⟩:=hir
    have e0:=hcell 0 _ rfl
    simp only[Nat.add_zero,Nat.mul_one] at e0
    have HTK:=zh (show v.take (j+1)=v.take j++[x] by rw[List.take_add_one,hx];rfl)
    have HXI:=zh hxi
    obtain rfl:=HLJ.out rfl
    obtain ⟨ob,cb2,rfl⟩:=HCJ.out.form
    obtain ⟨lj,hlj⟩:∃lj,l++v.take j=lj:=⟨_,rfl⟩
    rw[hlj] at HCJ HOK HSS
    obtain ⟨n,hn⟩:∃n,lj.length=n:=⟨_,rfl⟩
    rw[hn] at HCJ HSS
    have HNL:=zh hn
    have hnb:n≤1000001:=by rw[←hn];exact Trm.newB_short HOK.out
    have HTN:=zh (show l++v.take (j+1)=lj++[x] by rw[HTK.out,←List.append_assoc,hlj])
    have HNB:=zh (zgK (x:=x) HOK.out)
    have hvl:=zac e0
    have hbw:B≤wr.heap.size:=Nat.le_trans hB HT.out.size
    have hbs:base≤wr.heap.size:=Nat.le_trans hbase.2 HT.out.size
    have HSO:=zh (show ∀b,SR cb (.slice ob n cb2) b→B≤b from fun b h=>by
     by_cases hb:b<w.heap.size
     ·exact HSB.out b (HSS.out b hb h)
     ·omega)
    have HD:=zh ((Below.refl wr.heap.size wr).drew)
    clear hx hcell hxi hlj hn
    by_cases hbad:x<0∨(¬x<0∧1000000<x)∨(¬x<0∧¬1000000<x∧lj.contains x=true)
    ·rcases hbad with hx0 | ⟨hx0,hx1⟩ | ⟨hx0,hx1,hq2⟩
     case' inl=>
      have fx0:decide (x<0)=true:=decide_eq_true hx0
      have HNX:=zh (show Trm.newB (fun _=>false) (l++v.take (j+1))=false from by rw[HTN.out,HNB.out,decide_eq_false (show ¬0≤x by omega)];rfl)
      go_upto_region 3 with fail
      clear c6 cl
      refine zab (Below wr.heap.size wr) (by kernel_rfl) (by kernel_rfl) HD.out ?_
      intro T0 _ WW HWW HWW2
      have y0:∀t,(WW t).cell? _=_:=fun t=>((HWW t).cell (p:=⟨vb,voff+j,none⟩) hvl).trans e0
      have HWH:=zh HWW
      clear HWW HWW2
      repeat (go_big_quiet_step (first | fail | fail))
      refine wpQuiet_nil ?_
      intro t'
      obtain ⟨W5,hW5⟩:∃W5,WW t'=W5:=⟨_,rfl⟩
      have HB5:=zh (show Below wr.heap.size wr W5 from hW5 ▸ HWH.out t')
      rw[hW5]
      have HC5:=zh (HCJ.out.keep HB5.out)
      clear hW5 HWH y0
      have c6:=HC5.out.box.cell 6 rfl
      have cz:=HC5.out.box.free 6
      have cl:=HC5.out.box.lt
      go_upto_region 5 with fail
      obtain ⟨W6,hW6⟩:∃W6,W5.setCell ⟨cb,6,none⟩ (.bool false)=W6:=⟨_,rfl⟩
      have HC6:=zh (hW6 ▸ HC5.out.failed false)
      have HW6:=zh (show Turned (fun b=>b=cb) wr W6 from hW6 ▸ (Turned.of_below HB5.out).next (Turned.set W5 ⟨cb,6,none⟩ (.bool false) rfl))
      rw[hW6]
      clear c6 cz cl hW6 HB5 HC5
     case' inr.inl=>
      have fx0:decide (x<0)=false:=decide_eq_false hx0
      have fx1:decide (1000000<x)=true:=decide_eq_true hx1
      have HNX:=zh (show Trm.newB (fun _=>false) (l++v.take (j+1))=false from by rw[HTN.out,HNB.out,decide_eq_false (show ¬x≤1000000 by omega)];simp)
      go_upto_region 3 with fail
      clear c6 cl
      refine zab (Below wr.heap.size wr) (by kernel_rfl) (by kernel_rfl) HD.out ?_
      intro T0 _ WW HWW HWW2
      have y0:∀t,(WW t).cell? _=_:=fun t=>((HWW t).cell (p:=⟨vb,voff+j,none⟩) hvl).trans e0
      have HWH:=zh HWW
      clear HWW HWW2
      repeat (go_big_quiet_step (first | fail | fail))
      refine wpQuiet_nil ?_
      intro t'
      obtain ⟨W5,hW5⟩:∃W5,WW t'=W5:=⟨_,rfl⟩
      have HB5:=zh (show Below wr.heap.size wr W5 from hW5 ▸ HWH.out t')
      rw[hW5]
      have HC5:=zh (HCJ.out.keep HB5.out)
      clear hW5 HWH y0
      have c6:=HC5.out.box.cell 6 rfl
      have cz:=HC5.out.box.free 6
      have cl:=HC5.out.box.lt
      go_upto_region 5 with fail
      obtain ⟨W6,hW6⟩:∃W6,W5.setCell ⟨cb,6,none⟩ (.bool false)=W6:=⟨_,rfl⟩
      have HC6:=zh (hW6 ▸ HC5.out.failed false)
      have HW6:=zh (show Turned (fun b=>b=cb) wr W6 from hW6 ▸ (Turned.of_below HB5.out).next (Turned.set W5 ⟨cb,6,none⟩ (.bool false) rfl))
      rw[hW6]
      clear c6 cz cl hW6 HB5 HC5
     case' inr.inr=>
      have fx0:decide (x<0)=false:=decide_eq_false hx0
      have fx1:decide (1000000<x)=false:=decide_eq_false hx1
      have HNX:=zh (show Trm.newB (fun _=>false) (l++v.take (j+1))=false from by rw[HTN.out,HNB.out,hq2];simp)
      go_upto_region 3 with fail
      clear c6 cl
      refine zab (Below wr.heap.size wr) (by kernel_rfl) (by kernel_rfl) HD.out ?_
      intro T0 _ WW HWW HWW2
      have y0:∀t,(WW t).cell? _=_:=fun t=>((HWW t).cell (p:=⟨vb,voff+j,none⟩) hvl).trans e0
      have y5:∀t,(WW t).cell? _=_:=fun t=>((HWW t).cell (p:=⟨cb,5,none⟩) HCJ.out.box.lt).trans (HCJ.out.box.cell 5 rfl)
      have HH:Hid (∀t,Calls prog 73 #[.slice ob n cb2,.int .i64 x] (WW t) fun e w'=>e=.returned (.bool true)∧∃t',w'=WW t'):=zh (fun t=>zak HWW2 (
       (zdE lj (.slice ob n cb2) x wr.heap.size (WW t) ((rowInts (by rw[HNL.out];exact (HNL.out ▸ HCJ.out.row)) HCJ.out.ints).kept (HWW t) fun _ _ _ h=>h) (HWW t).size _ hq2).mono fun e w' h=>⟨h.1,((HWW t).trans (h.2.mono (HWW t).size))⟩))
      have HWH:=zh HWW
      clear HWW HWW2
      repeat (go_big_quiet_step (first | (go_at_call 73;exact HH.out _) | fail))
      refine wpQuiet_nil ?_
      intro t'
      obtain ⟨W5,hW5⟩:∃W5,WW t'=W5:=⟨_,rfl⟩
      have HB5:=zh (show Below wr.heap.size wr W5 from hW5 ▸ HWH.out t')
      rw[hW5]
      have HC5:=zh (HCJ.out.keep HB5.out)
      clear hW5 HWH y0 y5 HH
      have c6:=HC5.out.box.cell 6 rfl
      have cz:=HC5.out.box.free 6
      have cl:=HC5.out.box.lt
      go_upto_region 5 with fail
      obtain ⟨W6,hW6⟩:∃W6,W5.setCell ⟨cb,6,none⟩ (.bool false)=W6:=⟨_,rfl⟩
      have HC6:=zh (hW6 ▸ HC5.out.failed false)
      have HW6:=zh (show Turned (fun b=>b=cb) wr W6 from hW6 ▸ (Turned.of_below HB5.out).next (Turned.set W5 ⟨cb,6,none⟩ (.bool false) rfl))
      rw[hW6]
      clear c6 cz cl hW6 HB5 HC5
     all_goals
      have HT6:=zh (HT.out.next (HW6.out.wider (S':=SR cb bsl) fun b _ h=>.inl h))
      have hcb:(Value.slice ob n cb2).ownBlock≠some cb:=HC6.out.ne
      have HBW:=zh (show Below B wr W6 from HW6.out.below (fun b hb=>by rw[hb];exact HSO.out cb (.inl rfl)) hbw)
      have HXC:=zh (show ∀w1,Turned (fun b=>(Value.slice ob n cb2).ownBlock=some b) W6 w1→w1.cell? ⟨vb,voff+j,none⟩=some (.int .i64 x) from fun w1 h=>((h.below (fun b hb=>HSO.out b (.inr hb)) (Nat.le_trans hbw HW6.out.size)).cell (p:=⟨vb,voff+j,none⟩) hvb).trans ((HBW.out.cell (p:=⟨vb,voff+j,none⟩) hvb).trans e0))
      have hbs5:base≤W6.heap.size:=Nat.le_trans hbs HW6.out.size
      clear HSO HCJ HBW e0 hvl
      have HD5:=zh ((Below.refl W6.heap.size W6).drew)
      refine zbB 11 10 (fun i=>i==9) (RBiR base cb j n lj x (.slice ob n cb2) (.slice (some ⟨vb,voff,none⟩) lv cv) ⟨vb,voff+j,none⟩ W6.heap.size) (fun A C=>Turned (fun b=>(Value.slice ob n cb2).ownBlock=some b) A C) (fun A C=>Below A.heap.size A C) (by kernel_rfl) (by show turnT _ 11 56 10 _=true;kernel_rfl) (fun h k=>h.next k) (fun h k=>Below.next h k) (fun _ k=>Turned.of_below k) (Turned.refl _ _) (Below.refl _ _) (fun i v A C hi hu h _=>zdk i v A C hi hu h) (fun i v A C hu h hb=>zes i v A C (by simpa using hu) h hb) (fun v A C h hb=>ze7 v A C h hb) ?hops ?hend
      case hops=>
       intro i o hi ho a w1 hdf hsz hex hpre hdep hrest
       have HX:=zh (show Turned (fun b=>(Value.slice ob n cb2).ownBlock=some b) W6 w1 from (Turned.of_below HD5.out).next hex)
       match i,hi with
       | 0,_=>
        obtain rfl:_=o:=Option.some.inj ho
        have h0:a.tmps.getD 0 undef=.pointer (some ⟨cb,0,none⟩):=hrest.at 0 (by kernel_rfl)
        exact zai (v:=.pointer (some ⟨cb,0,none⟩)) (w':=w1) rfl (by go_simp) ⟨rfl,_,rfl,rfl,Below.refl _ _⟩
       | 1,_=>
        obtain rfl:_=o:=Option.some.inj ho
        have h0:a.tmps.getD 0 undef=.pointer (some ⟨cb,0,none⟩):=hrest.at 0 (by kernel_rfl)
        exact zai (v:=.pointer (some ⟨cb,0,none⟩)) (w':=w1) rfl (by go_simp) ⟨rfl,_,rfl,rfl,Below.refl _ _⟩
       | 2,_=>
        obtain rfl:_=o:=Option.some.inj ho
        have h44:a.tmps.getD 44 undef=.pointer (some ⟨cb,0,none⟩):=zaJ hdep 1 44 (by kernel_rfl)
        exact zai (v:=.pointer (some ⟨cb,0,none⟩)) (w':=w1) rfl (by go_simp) ⟨rfl,_,rfl,rfl,Below.refl _ _⟩
       | 3,_=>
        obtain rfl:_=o:=Option.some.inj ho
        have h45:a.tmps.getD 45 undef=.pointer (some ⟨cb,0,none⟩):=zaJ hdep 2 45 (by kernel_rfl)
        exact zai (v:=.pointer (some ⟨cb,5,none⟩)) (w':=w1) rfl (by go_simp) ⟨rfl,_,rfl,rfl,Below.refl _ _⟩
       | 4,_=>
        obtain rfl:_=o:=Option.some.inj ho
        have h46:a.tmps.getD 46 undef=.pointer (some ⟨cb,5,none⟩):=zaJ hdep 3 46 (by kernel_rfl)
        have hbx:=(HX.out.box HC6.out.box hcb)
        have c5:=hbx.cell 5 rfl
        have cl:=hbx.lt
        exact zai (v:=.slice ob n cb2) (w':=w1) rfl (by go_simp) ⟨rfl,_,rfl,rfl,Below.refl _ _⟩
       | 5,_=>
        obtain rfl:_=o:=Option.some.inj ho
        have h1:a.tmps.getD 1 undef=.slice (some ⟨vb,voff,none⟩) lv cv:=hrest.at 1 (by kernel_rfl)
        exact zai (v:=.slice (some ⟨vb,voff,none⟩) lv cv) (w':=w1) rfl (by go_simp) ⟨rfl,_,rfl,rfl,Below.refl _ _⟩
       | 6,_=>
        obtain rfl:_=o:=Option.some.inj ho
        have h4:a.tmps.getD 4 undef=.int .i64 j:=hrest.at 4 (by kernel_rfl)
        exact zai (v:=.int .i64 j) (w':=w1) rfl (by go_simp) ⟨rfl,_,rfl,rfl,Below.refl _ _⟩
       | 7,_=>
        obtain rfl:_=o:=Option.some.inj ho
        have h48:a.tmps.getD 48 undef=.slice (some ⟨vb,voff,none⟩) lv cv:=zaJ hdep 5 48 (by kernel_rfl)
        have h49:a.tmps.getD 49 undef=.int .i64 j:=zaJ hdep 6 49 (by kernel_rfl)
        exact zai (v:=.pointer (some ⟨vb,voff+j,none⟩)) (w':=w1) rfl (by go_simp) ⟨rfl,_,rfl,rfl,Below.refl _ _⟩
       | 8,_=>
        obtain rfl:_=o:=Option.some.inj ho
        have h50:a.tmps.getD 50 undef=.pointer (some ⟨vb,voff+j,none⟩):=zaJ hdep 7 50 (by kernel_rfl)
        have hxc:=HXC.out w1 HX.out
        have hxl:=zac hxc
        exact zai (v:=.int .i64 x) (w':=w1) rfl (by go_simp) ⟨rfl,_,rfl,rfl,Below.refl _ _⟩
       | 9,_=>
        obtain rfl:_=o:=Option.some.inj ho
        have h51:a.tmps.getD 51 undef=.int .i64 x:=zaJ hdep 8 51 (by kernel_rfl)
        exact zcj (v:=.slice (some ⟨w1.heap.size,0,none⟩) 1 1) (w':=w1.alloc (.cells #[.int .i64 x] 3)) rfl rfl h51 (zkO _ _) ⟨rfl,_,rfl,⟨_,rfl,BoxL.new rfl _ _⟩,Below.one _ _⟩
       | 10,_=>
        obtain rfl:_=o:=Option.some.inj ho
        have h47:a.tmps.getD 47 undef=.slice ob n cb2:=zaJ hdep 4 47 (by kernel_rfl)
        obtain ⟨b9,h52,hb9⟩:∃b,a.tmps.getD 52 undef=.slice (some ⟨b,0,none⟩) 1 1∧BoxL w1 b 3 [.int .i64 x]:=zaJ hdep 9 52 (by kernel_rfl)
        have hrow:w1.ownsRow base 3 1 (.slice ob n cb2) n (lj.map (Value.int .i64)):=zam (by have h:=HC6.out.row;rw[HNL.out] at h;exact h) (Below.next HD5.out (hpre rfl))
        obtain ⟨i0,hi0,hz0,hz1,hz2⟩:=info_parts zbu
        refine wpList_append_lies w1 rfl (.tmp 47) (.tmp 52) 24 rfl base 3 i0 (.int .i64 0) 1 8 underlying24 hi0 hz0 hz1 hz2 rfl (by decide) (.slice ob n cb2) n (lj.map (Value.int .i64)) h47 hrow ⟨b9,0,none⟩ 1 1 [.int .i64 x] h52 rfl (zcN hb9) (by intro u hu;simp only[List.mem_cons,List.not_mem_nil,or_false] at hu;subst hu;rfl) (by decide) (by unfold maxLen;omega) (by omega) (by have:=HX.out.size;omega) w1.heap.size rfl ?_
        intro g cap w7 hown7 hgr7 hlie7 hlt7
        exact ⟨rfl,_,rfl,⟨g,cap,rfl,hown7,hlie7.imp id (fun e=>by have:=HX.out.size;omega)⟩,Turned.grown hgr7 (fun _ h=>h)⟩
      case hend=>
       intro a w1 hdf hsz hex hval hrest
       obtain ⟨g,cap,h53,hown,hlie⟩:∃(g cap:Nat),a.tmps.getD 53 undef=.slice (some ⟨g,0,none⟩) (n+1) cap∧w1.ownsRow base 3 1 (.slice (some ⟨g,0,none⟩) (n+1) cap) (n+1) (lj.map (Value.int .i64)++([.int .i64 x]:List Value))∧((Value.slice ob n cb2).ownBlock=some g∨W6.heap.size≤g):=hval 10 _ 53 (by omega) rfl rfl rfl
       have h43:a.tmps.getD 43 undef=.pointer (some ⟨cb,0,none⟩):=hval 0 _ 43 (by omega) rfl rfl rfl
       obtain ⟨f,ha,hf⟩:=zei [false,false,false,false,false,false,false,false,false,false,false,false,false,false,false,false,false,false,false,false,false,false,false,false,false,false,false,false,false,false,false,false,false,false,false,false,false,false,false,false,false,false,false,true,true,true,true,true,true,true,true,true,true,true] (by kernel_rfl) hdf hsz hrest
       rw[←hf] at h53 h43
       subst ha
       have HX:=zh (show Turned (fun b=>(Value.slice ob n cb2).ownBlock=some b) W6 w1 from (Turned.of_below HD5.out).next hex)
       have hbx:=HX.out.box HC6.out.box hcb
       have c5:=hbx.cell 5 rfl
       have cz:=hbx.free 5
       have cl:=hbx.lt
       have HS5:=zh (zd2 HC6.out HX.out hown hlie HXI.out HNL.out.symm)
       clear hval hrest hf hex hbx hown hdf hsz
       simp only[spell,h53,h43,List.drop_succ_cons,List.drop_zero]
       go_wp2_with fail
       go_roundg (lv-(j+1))
       case measure=>omega
       case rel=>exact ⟨j+1,.slice (some ⟨g,0,none⟩) (n+1) cap,false,lj++[x],rfl,by omega,by go_num,zh HS5.out.1,zh (fun _=>HTN.out.symm),HNX,zh (HT6.out.trans HS5.out.2.1 fun b hb h=>HSS.out b hb h),zh (fun b hb h=>HSS.out b hb (HS5.out.2.2 b (Nat.lt_of_lt_of_le hb HT6.out.size) h))⟩
    ·have hx0:¬x<0:=fun h=>hbad (.inl h)
     have hx1:¬1000000<x:=fun h=>hbad (.inr (.inl ⟨hx0,h⟩))
     have hq2:lj.contains x=false:=by
      cases h:lj.contains x with
      | false=>rfl
      | true=>exact absurd (.inr (.inr ⟨hx0,hx1,h⟩)) hbad
     clear hbad
     have fx0:decide (x<0)=false:=decide_eq_false hx0
     have fx1:decide (1000000<x)=false:=decide_eq_false hx1
     have HNX:=zh (show Trm.newB (fun _=>false) (l++v.take (j+1))=true from by rw[HTN.out,HNB.out,hq2,decide_eq_true (show 0≤x by omega),decide_eq_true (show x≤1000000 by omega)];rfl)
     go_upto_region 3 with fail
     clear c6 cl
     refine zab (Below wr.heap.size wr) (by kernel_rfl) (by kernel_rfl) HD.out ?_
     intro T0 _ WW HWW HWW2
     have y0:∀t,(WW t).cell? _=_:=fun t=>((HWW t).cell (p:=⟨vb,voff+j,none⟩) hvl).trans e0
     have y5:∀t,(WW t).cell? _=_:=fun t=>((HWW t).cell (p:=⟨cb,5,none⟩) HCJ.out.box.lt).trans (HCJ.out.box.cell 5 rfl)
     have HH:Hid (∀t,Calls prog 73 #[.slice ob n cb2,.int .i64 x] (WW t) fun e w'=>e=.returned (.bool false)∧∃t',w'=WW t'):=zh (fun t=>zak HWW2 (
      (zdE lj (.slice ob n cb2) x wr.heap.size (WW t) ((rowInts (by rw[HNL.out];exact (HNL.out ▸ HCJ.out.row)) HCJ.out.ints).kept (HWW t) fun _ _ _ h=>h) (HWW t).size _ hq2).mono fun e w' h=>⟨h.1,((HWW t).trans (h.2.mono (HWW t).size))⟩))
     have HWH:=zh HWW
     clear HWW HWW2
     repeat (go_big_quiet_step (first | (go_at_call 73;exact HH.out _) | fail))
     refine wpQuiet_nil ?_
     intro t'
     obtain ⟨W5,hW5⟩:∃W5,WW t'=W5:=⟨_,rfl⟩
     have HB5:=zh (show Below wr.heap.size wr W5 from hW5 ▸ HWH.out t')
     rw[hW5]
     have HC5:=zh (HCJ.out.keep HB5.out)
     clear hW5 HWH y0 y5 HH
     go_upto_region 5 with fail
     have HC6:=HC5
     have HW6:=zh (show Turned (fun b=>b=cb) wr W5 from Turned.of_below HB5.out)
     clear HB5 HC5
     have HT6:=zh (HT.out.next (HW6.out.wider (S':=SR cb bsl) fun b _ h=>.inl h))
     have hcb:(Value.slice ob n cb2).ownBlock≠some cb:=HC6.out.ne
     have HBW:=zh (show Below B wr W5 from HW6.out.below (fun b hb=>by rw[hb];exact HSO.out cb (.inl rfl)) hbw)
     have HXC:=zh (show ∀w1,Turned (fun b=>(Value.slice ob n cb2).ownBlock=some b) W5 w1→w1.cell? ⟨vb,voff+j,none⟩=some (.int .i64 x) from fun w1 h=>((h.below (fun b hb=>HSO.out b (.inr hb)) (Nat.le_trans hbw HW6.out.size)).cell (p:=⟨vb,voff+j,none⟩) hvb).trans ((HBW.out.cell (p:=⟨vb,voff+j,none⟩) hvb).trans e0))
     have hbs5:base≤W5.heap.size:=Nat.le_trans hbs HW6.out.size
     clear HSO HCJ HBW e0 hvl
     have HD5:=zh ((Below.refl W5.heap.size W5).drew)
     refine zbB 11 10 (fun i=>i==9) (RBiR base cb j n lj x (.slice ob n cb2) (.slice (some ⟨vb,voff,none⟩) lv cv) ⟨vb,voff+j,none⟩ W5.heap.size) (fun A C=>Turned (fun b=>(Value.slice ob n cb2).ownBlock=some b) A C) (fun A C=>Below A.heap.size A C) (by kernel_rfl) (by show turnT _ 11 56 10 _=true;kernel_rfl) (fun h k=>h.next k) (fun h k=>Below.next h k) (fun _ k=>Turned.of_below k) (Turned.refl _ _) (Below.refl _ _) (fun i v A C hi hu h _=>zdk i v A C hi hu h) (fun i v A C hu h hb=>zes i v A C (by simpa using hu) h hb) (fun v A C h hb=>ze7 v A C h hb) ?hops ?hend
     case hops=>
      intro i o hi ho a w1 hdf hsz hex hpre hdep hrest
      have HX:=zh (show Turned (fun b=>(Value.slice ob n cb2).ownBlock=some b) W5 w1 from (Turned.of_below HD5.out).next hex)
      match i,hi with
      | 0,_=>
       obtain rfl:_=o:=Option.some.inj ho
       have h0:a.tmps.getD 0 undef=.pointer (some ⟨cb,0,none⟩):=hrest.at 0 (by kernel_rfl)
       exact zai (v:=.pointer (some ⟨cb,0,none⟩)) (w':=w1) rfl (by go_simp) ⟨rfl,_,rfl,rfl,Below.refl _ _⟩
      | 1,_=>
       obtain rfl:_=o:=Option.some.inj ho
       have h0:a.tmps.getD 0 undef=.pointer (some ⟨cb,0,none⟩):=hrest.at 0 (by kernel_rfl)
       exact zai (v:=.pointer (some ⟨cb,0,none⟩)) (w':=w1) rfl (by go_simp) ⟨rfl,_,rfl,rfl,Below.refl _ _⟩
      | 2,_=>
       obtain rfl:_=o:=Option.some.inj ho
       have h44:a.tmps.getD 44 undef=.pointer (some ⟨cb,0,none⟩):=zaJ hdep 1 44 (by kernel_rfl)
       exact zai (v:=.pointer (some ⟨cb,0,none⟩)) (w':=w1) rfl (by go_simp) ⟨rfl,_,rfl,rfl,Below.refl _ _⟩
      | 3,_=>
       obtain rfl:_=o:=Option.some.inj ho
       have h45:a.tmps.getD 45 undef=.pointer (some ⟨cb,0,none⟩):=zaJ hdep 2 45 (by kernel_rfl)
       exact zai (v:=.pointer (some ⟨cb,5,none⟩)) (w':=w1) rfl (by go_simp) ⟨rfl,_,rfl,rfl,Below.refl _ _⟩
      | 4,_=>
       obtain rfl:_=o:=Option.some.inj ho
       have h46:a.tmps.getD 46 undef=.pointer (some ⟨cb,5,none⟩):=zaJ hdep 3 46 (by kernel_rfl)
       have hbx:=(HX.out.box HC6.out.box hcb)
       have c5:=hbx.cell 5 rfl
       have cl:=hbx.lt
       exact zai (v:=.slice ob n cb2) (w':=w1) rfl (by go_simp) ⟨rfl,_,rfl,rfl,Below.refl _ _⟩
      | 5,_=>
       obtain rfl:_=o:=Option.some.inj ho
       have h1:a.tmps.getD 1 undef=.slice (some ⟨vb,voff,none⟩) lv cv:=hrest.at 1 (by kernel_rfl)
       exact zai (v:=.slice (some ⟨vb,voff,none⟩) lv cv) (w':=w1) rfl (by go_simp) ⟨rfl,_,rfl,rfl,Below.refl _ _⟩
      | 6,_=>
       obtain rfl:_=o:=Option.some.inj ho
       have h4:a.tmps.getD 4 undef=.int .i64 j:=hrest.at 4 (by kernel_rfl)
       exact zai (v:=.int .i64 j) (w':=w1) rfl (by go_simp) ⟨rfl,_,rfl,rfl,Below.refl _ _⟩
      | 7,_=>
       obtain rfl:_=o:=Option.some.inj ho
       have h48:a.tmps.getD 48 undef=.slice (some ⟨vb,voff,none⟩) lv cv:=zaJ hdep 5 48 (by kernel_rfl)
       have h49:a.tmps.getD 49 undef=.int .i64 j:=zaJ hdep 6 49 (by kernel_rfl)
       exact zai (v:=.pointer (some ⟨vb,voff+j,none⟩)) (w':=w1) rfl (by go_simp) ⟨rfl,_,rfl,rfl,Below.refl _ _⟩
      | 8,_=>
       obtain rfl:_=o:=Option.some.inj ho
       have h50:a.tmps.getD 50 undef=.pointer (some ⟨vb,voff+j,none⟩):=zaJ hdep 7 50 (by kernel_rfl)
       have hxc:=HXC.out w1 HX.out
       have hxl:=zac hxc
       exact zai (v:=.int .i64 x) (w':=w1) rfl (by go_simp) ⟨rfl,_,rfl,rfl,Below.refl _ _⟩
      | 9,_=>
       obtain rfl:_=o:=Option.some.inj ho
       have h51:a.tmps.getD 51 undef=.int .i64 x:=zaJ hdep 8 51 (by kernel_rfl)
       exact zcj (v:=.slice (some ⟨w1.heap.size,0,none⟩) 1 1) (w':=w1.alloc (.cells #[.int .i64 x] 3)) rfl rfl h51 (zkO _ _) ⟨rfl,_,rfl,⟨_,rfl,BoxL.new rfl _ _⟩,Below.one _ _⟩
      | 10,_=>
       obtain rfl:_=o:=Option.some.inj ho
       have h47:a.tmps.getD 47 undef=.slice ob n cb2:=zaJ hdep 4 47 (by kernel_rfl)
       obtain ⟨b9,h52,hb9⟩:∃b,a.tmps.getD 52 undef=.slice (some ⟨b,0,none⟩) 1 1∧BoxL w1 b 3 [.int .i64 x]:=zaJ hdep 9 52 (by kernel_rfl)
       have hrow:w1.ownsRow base 3 1 (.slice ob n cb2) n (lj.map (Value.int .i64)):=zam (by have h:=HC6.out.row;rw[HNL.out] at h;exact h) (Below.next HD5.out (hpre rfl))
       obtain ⟨i0,hi0,hz0,hz1,hz2⟩:=info_parts zbu
       refine wpList_append_lies w1 rfl (.tmp 47) (.tmp 52) 24 rfl base 3 i0 (.int .i64 0) 1 8 underlying24 hi0 hz0 hz1 hz2 rfl (by decide) (.slice ob n cb2) n (lj.map (Value.int .i64)) h47 hrow ⟨b9,0,none⟩ 1 1 [.int .i64 x] h52 rfl (zcN hb9) (by intro u hu;simp only[List.mem_cons,List.not_mem_nil,or_false] at hu;subst hu;rfl) (by decide) (by unfold maxLen;omega) (by omega) (by have:=HX.out.size;omega) w1.heap.size rfl ?_
       intro g cap w7 hown7 hgr7 hlie7 hlt7
       exact ⟨rfl,_,rfl,⟨g,cap,rfl,hown7,hlie7.imp id (fun e=>by have:=HX.out.size;omega)⟩,Turned.grown hgr7 (fun _ h=>h)⟩
     case hend=>
      intro a w1 hdf hsz hex hval hrest
      obtain ⟨g,cap,h53,hown,hlie⟩:∃(g cap:Nat),a.tmps.getD 53 undef=.slice (some ⟨g,0,none⟩) (n+1) cap∧w1.ownsRow base 3 1 (.slice (some ⟨g,0,none⟩) (n+1) cap) (n+1) (lj.map (Value.int .i64)++([.int .i64 x]:List Value))∧((Value.slice ob n cb2).ownBlock=some g∨W5.heap.size≤g):=hval 10 _ 53 (by omega) rfl rfl rfl
      have h43:a.tmps.getD 43 undef=.pointer (some ⟨cb,0,none⟩):=hval 0 _ 43 (by omega) rfl rfl rfl
      obtain ⟨f,ha,hf⟩:=zei [false,false,false,false,false,false,false,false,false,false,false,false,false,false,false,false,false,false,false,false,false,false,false,false,false,false,false,false,false,false,false,false,false,false,false,false,false,false,false,false,false,false,false,true,true,true,true,true,true,true,true,true,true,true] (by kernel_rfl) hdf hsz hrest
      rw[←hf] at h53 h43
      subst ha
      have HX:=zh (show Turned (fun b=>(Value.slice ob n cb2).ownBlock=some b) W5 w1 from (Turned.of_below HD5.out).next hex)
      have hbx:=HX.out.box HC6.out.box hcb
      have c5:=hbx.cell 5 rfl
      have cz:=hbx.free 5
      have cl:=hbx.lt
      have HS5:=zh (zd2 HC6.out HX.out hown hlie HXI.out HNL.out.symm)
      clear hval hrest hf hex hbx hown hdf hsz
      simp only[spell,h53,h43,List.drop_succ_cons,List.drop_zero]
      go_wp2_with fail
      go_roundg (lv-(j+1))
      case measure=>omega
      case rel=>exact ⟨j+1,.slice (some ⟨g,0,none⟩) (n+1) cap,true,lj++[x],rfl,by omega,by go_num,zh HS5.out.1,zh (fun _=>HTN.out.symm),HNX,zh (HT6.out.trans HS5.out.2.1 fun b hb h=>HSS.out b hb h),zh (fun b hb h=>HSS.out b hb (HS5.out.2.2 b (Nat.lt_of_lt_of_le hb HT6.out.size) h))⟩
   ·obtain rfl:j=lv:=by omega
    have hvt:v.take j=v:=List.take_of_length_le (by rw[←HLV.out];exact Nat.le_refl _)
    obtain rfl:q=true:=by rw[←HQ.out,←HOK.out,hvt]
    have HCE:=HCJ.out
    rw[HLJ.out rfl,hvt] at HCE
    have HCF:=zh HCE
    clear HCE hvt
    go_wp2_with fail
    first | go_end0 | skip
    exact ⟨rfl,bs,HT.out,HSS.out,fun _=>HCF.out,fun h=>(by cases h)⟩
end
section
open Go Go.RowKit
theorem zfr (m:Mdl) (v:Value) (B:Nat) (w:World) (hv:MdlR w B m v) (hB:B≤w.heap.size) (n:Int) (hn:n≤390) (hf:m.fewB n=true) :
  Calls prog 6 #[v] w fun e w'=>∃c p,e=.returned (.tuple #[.agg #[c,p],.int .i64 (m.makeErr Mk.lkL)])∧UntR w' w'.heap.size (m.makeU Mk.lkL) (.agg #[c,p])∧Below w.heap.size w w':=by
 obtain ⟨h1,h2,h3,h4,h5,h6⟩:=Mdl.few_facts hf
 refine zhy m v B w hv hB ⟨by omega,by omega⟩ (fun c hc=>?_) fun w' hb=>zg4 m v B w' (hv.kept (hb.mono hB)) (by have:=hb.size;omega) (by unfold Mdl.all;omega) ⟨by omega,fun c hc=>by have:=h5 c hc;omega⟩ (by omega) _ rfl
 rcases List.mem_append.1 hc with hc | hc
 ·have:=h5 c hc
  omega
 ·rw[List.mem_singleton.1 hc]
  dsimp only
  omega
end
section
open Go Go.RowKit Mk
theorem zfE (n:Int) (ov ot:Option Addr) (lv cvv lt ct:Nat) (rs:List Int) (ol:Option Addr) (ll cl:Nat) (B base mb:Nat) (K:KV) (X:Nat→Prop) (s:MSt) (d:Int) (W:World) (hm:ZkIn W B base mb K X s) (hi:IntsM W (fun b=>SZ mb K b∨X b) rs (.slice ol ll cl)) (hn:I64 n) (hroom:Room s 2) (hd:0≤d∧d≤1900000) :
  Calls prog 81 #[.pointer (some ⟨mb,0,none⟩),.agg #[.int .i64 10,.int .i64 n,.slice ov lv cvv,.slice ot lt ct],.int .i64 d,.slice ol ll cl] W fun r w'=>r=.returned (.tuple #[])∧∃K',ZkGo B base mb K K' X (Mk.strict 10 n d rs s) W w':=by
 obtain ⟨W1,hW1⟩:∃W1,W.alloc (.cells #[.int .i64 10,.int .i64 n,.slice ov lv cvv,.slice ot lt ct] 27)=W1:=⟨_,rfl⟩
 have HB1:=zh (show Below W.heap.size W W1 from by rw[←hW1];exact Below.one W _)
 have HBX:=zh (show BoxL W1 W.heap.size 27 [.int .i64 10,.int .i64 n,.slice ov lv cvv,.slice ot lt ct] from by rw[←hW1];exact BoxL.new rfl _ _)
 have HM:=zh (hm.keep HB1.out)
 have hsz:=hm.size
 have HW:=zh hW1
 have HI1:=zh (hi.below HB1.out)
 have HN:=zh hn
 have HRO:=zh hroom
 have hcode:s.code.length≤1000000:=by have:=hroom.1;omega
 have hdi:I64 d:=⟨by omega,by omega⟩
 have e0:=HBX.out.cell 0 rfl
 have e1:=HBX.out.cell 1 rfl
 have el:=HBX.out.lt
 obtain ⟨hll,hlc,hlm⟩:=HI1.out.1.lens
 clear hm hW1 hi hn hroom
 clear hll
 go_enter func81,ntmps81
 go_upto_region 1 with fail
 rw[HW.out]
 have HL:=zh (zal 9 d n 0 rs ol ll cl W1 HM.out hcode (by constructor<;>omega) hdi HN.out (by constructor<;>omega) HI1.out)
 go_wp2_with fail
 with_reducible refine HL.out.mono ?_
 rintro r w3 ⟨rfl,K3,hg3⟩
 have HG9:=zh (((ZkGo.refl HM.out).next hg3).before HB1.out hsz)
 clear hg3 HL e0 e1 el
 go_wp2_with fail
 first | go_end0 | (refine bodyPost_ret (results_none rfl _ _ _) rfl ?_) | fail
 exact ⟨rfl,_,HG9.out⟩
theorem zgl (n:Int) (ov ot:Option Addr) (lv cvv lt ct:Nat) (rs:List Int) (ol:Option Addr) (ll cl:Nat) (B base mb:Nat) (K:KV) (X:Nat→Prop) (s:MSt) (d:Int) (W:World) (hm:ZkIn W B base mb K X s) (hi:IntsM W (fun b=>SZ mb K b∨X b) rs (.slice ol ll cl)) (hn:I64 n) (hroom:Room s 2) (hd:0≤d∧d≤1900000) :
  Calls prog 81 #[.pointer (some ⟨mb,0,none⟩),.agg #[.int .i64 19,.int .i64 n,.slice ov lv cvv,.slice ot lt ct],.int .i64 d,.slice ol ll cl] W fun r w'=>r=.returned (.tuple #[])∧∃K',ZkGo B base mb K K' X (Mk.strict 19 n d rs s) W w':=by
 obtain ⟨W1,hW1⟩:∃W1,W.alloc (.cells #[.int .i64 19,.int .i64 n,.slice ov lv cvv,.slice ot lt ct] 27)=W1:=⟨_,rfl⟩
 have HB1:=zh (show Below W.heap.size W W1 from by rw[←hW1];exact Below.one W _)
 have HBX:=zh (show BoxL W1 W.heap.size 27 [.int .i64 19,.int .i64 n,.slice ov lv cvv,.slice ot lt ct] from by rw[←hW1];exact BoxL.new rfl _ _)
 have HM:=zh (hm.keep HB1.out)
 have hsz:=hm.size
 have HW:=zh hW1
 have HI1:=zh (hi.below HB1.out)
 have HN:=zh hn
 have HRO:=zh hroom
 have hcode:s.code.length≤1000000:=by have:=hroom.1;omega
 have hdi:I64 d:=⟨by omega,by omega⟩
 have e0:=HBX.out.cell 0 rfl
 have e1:=HBX.out.cell 1 rfl
 have el:=HBX.out.lt
 obtain ⟨hll,hlc,hlm⟩:=HI1.out.1.lens
 clear hm hW1 hi hn hroom
 clear hll
 go_enter func81,ntmps81
 go_upto_region 1 with fail
 rw[HW.out]
 have HL:=zh (zal 7 d n 0 rs ol ll cl W1 HM.out hcode (by constructor<;>omega) hdi HN.out (by constructor<;>omega) HI1.out)
 go_wp2_with fail
 with_reducible refine HL.out.mono ?_
 rintro r w3 ⟨rfl,K3,hg3⟩
 have HG9:=zh (((ZkGo.refl HM.out).next hg3).before HB1.out hsz)
 clear hg3 HL e0 e1 el
 go_wp2_with fail
 first | go_end0 | (refine bodyPost_ret (results_none rfl _ _ _) rfl ?_) | fail
 exact ⟨rfl,_,HG9.out⟩
theorem zgg (n:Int) (ov ot:Option Addr) (lv cvv lt ct:Nat) (rs:List Int) (hct:1≤rs.length) (ol:Option Addr) (ll cl:Nat) (B base mb:Nat) (K:KV) (X:Nat→Prop) (s:MSt) (d:Int) (W:World) (hm:ZkIn W B base mb K X s) (hi:IntsM W (fun b=>SZ mb K b∨X b) rs (.slice ol ll cl)) (hn:I64 n) (hroom:Room s 2) (hd:0≤d∧d≤1900000) :
  Calls prog 81 #[.pointer (some ⟨mb,0,none⟩),.agg #[.int .i64 12,.int .i64 n,.slice ov lv cvv,.slice ot lt ct],.int .i64 d,.slice ol ll cl] W fun r w'=>r=.returned (.tuple #[])∧∃K',ZkGo B base mb K K' X (Mk.strict 12 n d rs s) W w':=by
 obtain ⟨W1,hW1⟩:∃W1,W.alloc (.cells #[.int .i64 12,.int .i64 n,.slice ov lv cvv,.slice ot lt ct] 27)=W1:=⟨_,rfl⟩
 have HB1:=zh (show Below W.heap.size W W1 from by rw[←hW1];exact Below.one W _)
 have HBX:=zh (show BoxL W1 W.heap.size 27 [.int .i64 12,.int .i64 n,.slice ov lv cvv,.slice ot lt ct] from by rw[←hW1];exact BoxL.new rfl _ _)
 have HM:=zh (hm.keep HB1.out)
 have hsz:=hm.size
 have HW:=zh hW1
 have HI1:=zh (hi.below HB1.out)
 have HN:=zh hn
 have HRO:=zh hroom
 have hcode:s.code.length≤1000000:=by have:=hroom.1;omega
 have hdi:I64 d:=⟨by omega,by omega⟩
 have e0:=HBX.out.cell 0 rfl
 have e1:=HBX.out.cell 1 rfl
 have el:=HBX.out.lt
 obtain ⟨hll,hlc,hlm⟩:=HI1.out.1.lens
 clear hm hW1 hi hn hroom
 obtain ⟨r0,rl,rfl⟩:∃r0 rl,rs=r0::rl:=by
  cases rs with
  | nil=>simp at hct
  | cons a b=>exact ⟨a,b,rfl⟩
 obtain ⟨gb,goff,hgo,hgb,hgc,hri⟩:=SlC.int (j:=0) HI1.out.1 (x:=r0) rfl
 subst hgo
 have hgl:=zac hgc
 rw[Nat.add_zero] at hgc
 simp only[List.length_cons] at hll
 subst hll
 have HRI:=zh hri
 clear hri
 go_enter func81,ntmps81
 go_upto_region 1 with fail
 rw[HW.out]
 have HL:=zh (zal 14 d r0 0 [] none 0 0 W1 HM.out hcode (by constructor<;>omega) hdi HRI.out (by constructor<;>omega) (IntsM.nil _ _))
 go_wp2_with fail
 with_reducible refine HL.out.mono ?_
 rintro r w3 ⟨rfl,K3,hg3⟩
 have HG9:=zh (((ZkGo.refl HM.out).next hg3).before HB1.out hsz)
 clear hg3 HL e0 e1 el
 go_wp2_with fail
 first | go_end0 | (refine bodyPost_ret (results_none rfl _ _ _) rfl ?_) | fail
 exact ⟨rfl,_,HG9.out⟩
theorem zgm (n:Int) (ov ot:Option Addr) (lv cvv lt ct:Nat) (rs:List Int) (hct:1≤rs.length) (ol:Option Addr) (ll cl:Nat) (B base mb:Nat) (K:KV) (X:Nat→Prop) (s:MSt) (d:Int) (W:World) (hm:ZkIn W B base mb K X s) (hi:IntsM W (fun b=>SZ mb K b∨X b) rs (.slice ol ll cl)) (hn:I64 n) (hroom:Room s 2) (hd:0≤d∧d≤1900000) :
  Calls prog 81 #[.pointer (some ⟨mb,0,none⟩),.agg #[.int .i64 15,.int .i64 n,.slice ov lv cvv,.slice ot lt ct],.int .i64 d,.slice ol ll cl] W fun r w'=>r=.returned (.tuple #[])∧∃K',ZkGo B base mb K K' X (Mk.strict 15 n d rs s) W w':=by
 obtain ⟨W1,hW1⟩:∃W1,W.alloc (.cells #[.int .i64 15,.int .i64 n,.slice ov lv cvv,.slice ot lt ct] 27)=W1:=⟨_,rfl⟩
 have HB1:=zh (show Below W.heap.size W W1 from by rw[←hW1];exact Below.one W _)
 have HBX:=zh (show BoxL W1 W.heap.size 27 [.int .i64 15,.int .i64 n,.slice ov lv cvv,.slice ot lt ct] from by rw[←hW1];exact BoxL.new rfl _ _)
 have HM:=zh (hm.keep HB1.out)
 have hsz:=hm.size
 have HW:=zh hW1
 have HI1:=zh (hi.below HB1.out)
 have HN:=zh hn
 have HRO:=zh hroom
 have hcode:s.code.length≤1000000:=by have:=hroom.1;omega
 have hdi:I64 d:=⟨by omega,by omega⟩
 have e0:=HBX.out.cell 0 rfl
 have e1:=HBX.out.cell 1 rfl
 have el:=HBX.out.lt
 obtain ⟨hll,hlc,hlm⟩:=HI1.out.1.lens
 clear hm hW1 hi hn hroom
 obtain ⟨r0,rl,rfl⟩:∃r0 rl,rs=r0::rl:=by
  cases rs with
  | nil=>simp at hct
  | cons a b=>exact ⟨a,b,rfl⟩
 obtain ⟨gb,goff,hgo,hgb,hgc,hri⟩:=SlC.int (j:=0) HI1.out.1 (x:=r0) rfl
 subst hgo
 have hgl:=zac hgc
 rw[Nat.add_zero] at hgc
 simp only[List.length_cons] at hll
 subst hll
 have HRI:=zh hri
 clear hri
 go_enter func81,ntmps81
 go_upto_region 1 with fail
 rw[HW.out]
 have HL:=zh (zal 10 d r0 0 [] none 0 0 W1 HM.out hcode (by constructor<;>omega) hdi HRI.out (by constructor<;>omega) (IntsM.nil _ _))
 go_wp2_with fail
 with_reducible refine HL.out.mono ?_
 rintro r w3 ⟨rfl,K3,hg3⟩
 have HG9:=zh (((ZkGo.refl HM.out).next hg3).before HB1.out hsz)
 clear hg3 HL e0 e1 el
 go_wp2_with fail
 first | go_end0 | (refine bodyPost_ret (results_none rfl _ _ _) rfl ?_) | fail
 exact ⟨rfl,_,HG9.out⟩
theorem zfL (n:Int) (ov ot:Option Addr) (lv cvv lt ct:Nat) (rs:List Int) (hct:1≤rs.length) (ol:Option Addr) (ll cl:Nat) (B base mb:Nat) (K:KV) (X:Nat→Prop) (s:MSt) (d:Int) (W:World) (hm:ZkIn W B base mb K X s) (hi:IntsM W (fun b=>SZ mb K b∨X b) rs (.slice ol ll cl)) (hn:I64 n) (hroom:Room s 2) (hd:0≤d∧d≤1900000) :
  Calls prog 81 #[.pointer (some ⟨mb,0,none⟩),.agg #[.int .i64 16,.int .i64 n,.slice ov lv cvv,.slice ot lt ct],.int .i64 d,.slice ol ll cl] W fun r w'=>r=.returned (.tuple #[])∧∃K',ZkGo B base mb K K' X (Mk.strict 16 n d rs s) W w':=by
 obtain ⟨W1,hW1⟩:∃W1,W.alloc (.cells #[.int .i64 16,.int .i64 n,.slice ov lv cvv,.slice ot lt ct] 27)=W1:=⟨_,rfl⟩
 have HB1:=zh (show Below W.heap.size W W1 from by rw[←hW1];exact Below.one W _)
 have HBX:=zh (show BoxL W1 W.heap.size 27 [.int .i64 16,.int .i64 n,.slice ov lv cvv,.slice ot lt ct] from by rw[←hW1];exact BoxL.new rfl _ _)
 have HM:=zh (hm.keep HB1.out)
 have hsz:=hm.size
 have HW:=zh hW1
 have HI1:=zh (hi.below HB1.out)
 have HN:=zh hn
 have HRO:=zh hroom
 have hcode:s.code.length≤1000000:=by have:=hroom.1;omega
 have hdi:I64 d:=⟨by omega,by omega⟩
 have e0:=HBX.out.cell 0 rfl
 have e1:=HBX.out.cell 1 rfl
 have el:=HBX.out.lt
 obtain ⟨hll,hlc,hlm⟩:=HI1.out.1.lens
 clear hm hW1 hi hn hroom
 obtain ⟨r0,rl,rfl⟩:∃r0 rl,rs=r0::rl:=by
  cases rs with
  | nil=>simp at hct
  | cons a b=>exact ⟨a,b,rfl⟩
 obtain ⟨gb,goff,hgo,hgb,hgc,hri⟩:=SlC.int (j:=0) HI1.out.1 (x:=r0) rfl
 subst hgo
 have hgl:=zac hgc
 rw[Nat.add_zero] at hgc
 simp only[List.length_cons] at hll
 subst hll
 have HRI:=zh hri
 clear hri
 go_enter func81,ntmps81
 go_upto_region 1 with fail
 rw[HW.out]
 have HL:=zh (zal 11 d r0 0 [] none 0 0 W1 HM.out hcode (by constructor<;>omega) hdi HRI.out (by constructor<;>omega) (IntsM.nil _ _))
 go_wp2_with fail
 with_reducible refine HL.out.mono ?_
 rintro r w3 ⟨rfl,K3,hg3⟩
 have HG9:=zh (((ZkGo.refl HM.out).next hg3).before HB1.out hsz)
 clear hg3 HL e0 e1 el
 go_wp2_with fail
 first | go_end0 | (refine bodyPost_ret (results_none rfl _ _ _) rfl ?_) | fail
 exact ⟨rfl,_,HG9.out⟩
theorem zhc (n:Int) (ov ot:Option Addr) (lv cvv lt ct:Nat) (rs:List Int) (hct:1≤rs.length) (ol:Option Addr) (ll cl:Nat) (B base mb:Nat) (K:KV) (X:Nat→Prop) (s:MSt) (d:Int) (W:World) (hm:ZkIn W B base mb K X s) (hi:IntsM W (fun b=>SZ mb K b∨X b) rs (.slice ol ll cl)) (hn:I64 n) (hroom:Room s 2) (hd:0≤d∧d≤1900000) :
  Calls prog 81 #[.pointer (some ⟨mb,0,none⟩),.agg #[.int .i64 5,.int .i64 n,.slice ov lv cvv,.slice ot lt ct],.int .i64 d,.slice ol ll cl] W fun r w'=>r=.returned (.tuple #[])∧∃K',ZkGo B base mb K K' X (Mk.strict 5 n d rs s) W w':=by
 obtain ⟨W1,hW1⟩:∃W1,W.alloc (.cells #[.int .i64 5,.int .i64 n,.slice ov lv cvv,.slice ot lt ct] 27)=W1:=⟨_,rfl⟩
 have HB1:=zh (show Below W.heap.size W W1 from by rw[←hW1];exact Below.one W _)
 have HBX:=zh (show BoxL W1 W.heap.size 27 [.int .i64 5,.int .i64 n,.slice ov lv cvv,.slice ot lt ct] from by rw[←hW1];exact BoxL.new rfl _ _)
 have HM:=zh (hm.keep HB1.out)
 have hsz:=hm.size
 have HW:=zh hW1
 have HI1:=zh (hi.below HB1.out)
 have HN:=zh hn
 have HRO:=zh hroom
 have hcode:s.code.length≤1000000:=by have:=hroom.1;omega
 have hdi:I64 d:=⟨by omega,by omega⟩
 have e0:=HBX.out.cell 0 rfl
 have e1:=HBX.out.cell 1 rfl
 have el:=HBX.out.lt
 obtain ⟨hll,hlc,hlm⟩:=HI1.out.1.lens
 clear hm hW1 hi hn hroom
 obtain ⟨r0,rl,rfl⟩:∃r0 rl,rs=r0::rl:=by
  cases rs with
  | nil=>simp at hct
  | cons a b=>exact ⟨a,b,rfl⟩
 obtain ⟨gb,goff,hgo,hgb,hgc,hri⟩:=SlC.int (j:=0) HI1.out.1 (x:=r0) rfl
 subst hgo
 have hgl:=zac hgc
 rw[Nat.add_zero] at hgc
 simp only[List.length_cons] at hll
 subst hll
 have HRI:=zh hri
 clear hri
 go_enter func81,ntmps81
 go_upto_region 1 with fail
 rw[HW.out]
 go_upto_region 3 with fail
 by_cases hcl1:cl=1
 ·subst hcl1
  have HDR:=zh (IntsM.rest1 HI1.out)
  have HDL:=zh (fun (W3:World) (hb:Below W1.heap.size W1 W3)=>zal 17 d r0 0 rl (some ⟨gb,goff,none⟩) 0 0 W3 (HM.out.keep hb) hcode (by constructor<;>omega) hdi HRI.out (by constructor<;>omega) (HDR.out.below hb))
  have HD:=zh ((Below.refl W1.heap.size W1).drew)
  refine zaa (Below W1.heap.size W1) 8 (by kernel_rfl) (by kernel_rfl) HD.out ?_
  intro T0 _ WW HWW HWW2
  have z0:∀t,(WW t).cell? _=_:=fun t=>((HWW t).cell (p:=⟨gb,goff,none⟩) hgl).trans hgc
  have HWH:=zh HWW
  clear HWW HWW2
  simp only[List.take_succ_cons,List.take_zero,List.drop_succ_cons,List.drop_zero]
  repeat (go_big_quiet_step (fail))
  refine wpQuiet_nil ?_
  intro t'
  obtain ⟨W3,hW3⟩:∃W3,WW t'=W3:=⟨_,rfl⟩
  have HB3:=zh (show Below W1.heap.size W1 W3 from hW3 ▸ HWH.out t')
  rw[hW3]
  clear z0 hW3 HWH
  have HL:=zh (HDL.out W3 HB3.out)
  clear e0 e1 el
  go_wp2_with fail
  with_reducible refine HL.out.mono ?_
  rintro r w3 ⟨rfl,K3,hg3⟩
  have HG9:=zh ((((ZkGo.refl HM.out).after HB3.out).next hg3).before HB1.out hsz)
  clear hg3 HL hgc hgl
  go_wp2_with fail
  first | go_end0 | (refine bodyPost_ret (results_none rfl _ _ _) rfl ?_) | fail
  exact ⟨rfl,_,HG9.out⟩
 ·have hcl2:1<cl:=by omega
  have HDR:=zh (IntsM.rest2 HI1.out hcl1)
  have HDL:=zh (fun (W3:World) (hb:Below W1.heap.size W1 W3)=>zal 17 d r0 0 rl (some ⟨gb,goff+1,none⟩) rl.length (cl-1) W3 (HM.out.keep hb) hcode (by constructor<;>omega) hdi HRI.out (by constructor<;>omega) (HDR.out.below hb))
  have HD:=zh ((Below.refl W1.heap.size W1).drew)
  refine zaa (Below W1.heap.size W1) 8 (by kernel_rfl) (by kernel_rfl) HD.out ?_
  intro T0 _ WW HWW HWW2
  have z0:∀t,(WW t).cell? _=_:=fun t=>((HWW t).cell (p:=⟨gb,goff,none⟩) hgl).trans hgc
  have HWH:=zh HWW
  clear HWW HWW2
  simp only[List.take_succ_cons,List.take_zero,List.drop_succ_cons,List.drop_zero]
  repeat (go_big_quiet_step (fail))
  refine wpQuiet_nil ?_
  intro t'
  obtain ⟨W3,hW3⟩:∃W3,WW t'=W3:=⟨_,rfl⟩
  have HB3:=zh (show Below W1.heap.size W1 W3 from hW3 ▸ HWH.out t')
  rw[hW3]
  clear z0 hW3 HWH
  have HL:=zh (HDL.out W3 HB3.out)
  clear e0 e1 el
  go_wp2_with fail
  with_reducible refine HL.out.mono ?_
  rintro r w3 ⟨rfl,K3,hg3⟩
  have HG9:=zh ((((ZkGo.refl HM.out).after HB3.out).next hg3).before HB1.out hsz)
  clear hg3 HL hgc hgl
  go_wp2_with fail
  first | go_end0 | (refine bodyPost_ret (results_none rfl _ _ _) rfl ?_) | fail
  exact ⟨rfl,_,HG9.out⟩
theorem zf0 (n:Int) (ov ot:Option Addr) (lv cvv lt ct:Nat) (rs:List Int) (hct:1≤rs.length) (ol:Option Addr) (ll cl:Nat) (B base mb:Nat) (K:KV) (X:Nat→Prop) (s:MSt) (d:Int) (W:World) (hm:ZkIn W B base mb K X s) (hi:IntsM W (fun b=>SZ mb K b∨X b) rs (.slice ol ll cl)) (hn:I64 n) (hroom:Room s 2) (hd:0≤d∧d≤1900000) :
  Calls prog 81 #[.pointer (some ⟨mb,0,none⟩),.agg #[.int .i64 22,.int .i64 n,.slice ov lv cvv,.slice ot lt ct],.int .i64 d,.slice ol ll cl] W fun r w'=>r=.returned (.tuple #[])∧∃K',ZkGo B base mb K K' X (Mk.strict 22 n d rs s) W w':=by
 obtain ⟨W1,hW1⟩:∃W1,W.alloc (.cells #[.int .i64 22,.int .i64 n,.slice ov lv cvv,.slice ot lt ct] 27)=W1:=⟨_,rfl⟩
 have HB1:=zh (show Below W.heap.size W W1 from by rw[←hW1];exact Below.one W _)
 have HBX:=zh (show BoxL W1 W.heap.size 27 [.int .i64 22,.int .i64 n,.slice ov lv cvv,.slice ot lt ct] from by rw[←hW1];exact BoxL.new rfl _ _)
 have HM:=zh (hm.keep HB1.out)
 have hsz:=hm.size
 have HW:=zh hW1
 have HI1:=zh (hi.below HB1.out)
 have HN:=zh hn
 have HRO:=zh hroom
 have hcode:s.code.length≤1000000:=by have:=hroom.1;omega
 have hdi:I64 d:=⟨by omega,by omega⟩
 have e0:=HBX.out.cell 0 rfl
 have e1:=HBX.out.cell 1 rfl
 have el:=HBX.out.lt
 obtain ⟨hll,hlc,hlm⟩:=HI1.out.1.lens
 clear hm hW1 hi hn hroom
 obtain ⟨r0,rl,rfl⟩:∃r0 rl,rs=r0::rl:=by
  cases rs with
  | nil=>simp at hct
  | cons a b=>exact ⟨a,b,rfl⟩
 obtain ⟨gb,goff,hgo,hgb,hgc,hri⟩:=SlC.int (j:=0) HI1.out.1 (x:=r0) rfl
 subst hgo
 have hgl:=zac hgc
 rw[Nat.add_zero] at hgc
 simp only[List.length_cons] at hll
 subst hll
 have HRI:=zh hri
 clear hri
 go_enter func81,ntmps81
 go_upto_region 1 with fail
 rw[HW.out]
 go_upto_region 5 with fail
 by_cases hcl1:cl=1
 ·subst hcl1
  have HDR:=zh (IntsM.rest1 HI1.out)
  have HDL:=zh (fun (W3:World) (hb:Below W1.heap.size W1 W3)=>zal 18 d n r0 rl (some ⟨gb,goff,none⟩) 0 0 W3 (HM.out.keep hb) hcode (by constructor<;>omega) hdi HN.out HRI.out (HDR.out.below hb))
  have HD:=zh ((Below.refl W1.heap.size W1).drew)
  refine zaa (Below W1.heap.size W1) 10 (by kernel_rfl) (by kernel_rfl) HD.out ?_
  intro T0 _ WW HWW HWW2
  have z0:∀t,(WW t).cell? _=_:=fun t=>((HWW t).cell (p:=⟨gb,goff,none⟩) hgl).trans hgc
  have z1:∀t,(WW t).cell? _=_:=fun t=>((HWW t).cell (p:=⟨W.heap.size,1,none⟩) el).trans e1
  have HWH:=zh HWW
  clear HWW HWW2
  simp only[List.take_succ_cons,List.take_zero,List.drop_succ_cons,List.drop_zero]
  repeat (go_big_quiet_step (fail))
  refine wpQuiet_nil ?_
  intro t'
  obtain ⟨W3,hW3⟩:∃W3,WW t'=W3:=⟨_,rfl⟩
  have HB3:=zh (show Below W1.heap.size W1 W3 from hW3 ▸ HWH.out t')
  rw[hW3]
  clear z0 z1 hW3 HWH
  have HL:=zh (HDL.out W3 HB3.out)
  clear e0 e1 el
  go_wp2_with fail
  with_reducible refine HL.out.mono ?_
  rintro r w3 ⟨rfl,K3,hg3⟩
  have HG9:=zh ((((ZkGo.refl HM.out).after HB3.out).next hg3).before HB1.out hsz)
  clear hg3 HL hgc hgl
  go_wp2_with fail
  first | go_end0 | (refine bodyPost_ret (results_none rfl _ _ _) rfl ?_) | fail
  exact ⟨rfl,_,HG9.out⟩
 ·have hcl2:1<cl:=by omega
  have HDR:=zh (IntsM.rest2 HI1.out hcl1)
  have HDL:=zh (fun (W3:World) (hb:Below W1.heap.size W1 W3)=>zal 18 d n r0 rl (some ⟨gb,goff+1,none⟩) rl.length (cl-1) W3 (HM.out.keep hb) hcode (by constructor<;>omega) hdi HN.out HRI.out (HDR.out.below hb))
  have HD:=zh ((Below.refl W1.heap.size W1).drew)
  refine zaa (Below W1.heap.size W1) 10 (by kernel_rfl) (by kernel_rfl) HD.out ?_
  intro T0 _ WW HWW HWW2
  have z0:∀t,(WW t).cell? _=_:=fun t=>((HWW t).cell (p:=⟨gb,goff,none⟩) hgl).trans hgc
  have z1:∀t,(WW t).cell? _=_:=fun t=>((HWW t).cell (p:=⟨W.heap.size,1,none⟩) el).trans e1
  have HWH:=zh HWW
  clear HWW HWW2
  simp only[List.take_succ_cons,List.take_zero,List.drop_succ_cons,List.drop_zero]
  repeat (go_big_quiet_step (fail))
  refine wpQuiet_nil ?_
  intro t'
  obtain ⟨W3,hW3⟩:∃W3,WW t'=W3:=⟨_,rfl⟩
  have HB3:=zh (show Below W1.heap.size W1 W3 from hW3 ▸ HWH.out t')
  rw[hW3]
  clear z0 z1 hW3 HWH
  have HL:=zh (HDL.out W3 HB3.out)
  clear e0 e1 el
  go_wp2_with fail
  with_reducible refine HL.out.mono ?_
  rintro r w3 ⟨rfl,K3,hg3⟩
  have HG9:=zh ((((ZkGo.refl HM.out).after HB3.out).next hg3).before HB1.out hsz)
  clear hg3 HL hgc hgl
  go_wp2_with fail
  first | go_end0 | (refine bodyPost_ret (results_none rfl _ _ _) rfl ?_) | fail
  exact ⟨rfl,_,HG9.out⟩
theorem zf9 (n:Int) (ov ot:Option Addr) (lv cvv lt ct:Nat) (rs:List Int) (hct:2≤rs.length) (ol:Option Addr) (ll cl:Nat) (B base mb:Nat) (K:KV) (X:Nat→Prop) (s:MSt) (d:Int) (W:World) (hm:ZkIn W B base mb K X s) (hi:IntsM W (fun b=>SZ mb K b∨X b) rs (.slice ol ll cl)) (hn:I64 n) (hroom:Room s 2) (hd:0≤d∧d≤1900000) :
  Calls prog 81 #[.pointer (some ⟨mb,0,none⟩),.agg #[.int .i64 17,.int .i64 n,.slice ov lv cvv,.slice ot lt ct],.int .i64 d,.slice ol ll cl] W fun r w'=>r=.returned (.tuple #[])∧∃K',ZkGo B base mb K K' X (Mk.strict 17 n d rs s) W w':=by
 obtain ⟨W1,hW1⟩:∃W1,W.alloc (.cells #[.int .i64 17,.int .i64 n,.slice ov lv cvv,.slice ot lt ct] 27)=W1:=⟨_,rfl⟩
 have HB1:=zh (show Below W.heap.size W W1 from by rw[←hW1];exact Below.one W _)
 have HBX:=zh (show BoxL W1 W.heap.size 27 [.int .i64 17,.int .i64 n,.slice ov lv cvv,.slice ot lt ct] from by rw[←hW1];exact BoxL.new rfl _ _)
 have HM:=zh (hm.keep HB1.out)
 have hsz:=hm.size
 have HW:=zh hW1
 have HI1:=zh (hi.below HB1.out)
 have HN:=zh hn
 have HRO:=zh hroom
 have hcode:s.code.length≤1000000:=by have:=hroom.1;omega
 have hdi:I64 d:=⟨by omega,by omega⟩
 have e0:=HBX.out.cell 0 rfl
 have e1:=HBX.out.cell 1 rfl
 have el:=HBX.out.lt
 obtain ⟨hll,hlc,hlm⟩:=HI1.out.1.lens
 clear hm hW1 hi hn hroom
 obtain ⟨r0,r1,rl,rfl⟩:∃r0 r1 rl,rs=r0::r1::rl:=by
  match rs,hct with
  | a::b::c,_=>exact ⟨a,b,c,rfl⟩
 obtain ⟨gb,goff,hgo,hgb,hgc,hri⟩:=SlC.int (j:=0) HI1.out.1 (x:=r0) rfl
 subst hgo
 obtain ⟨gb',goff',hgo,hgb',hgd,hri'⟩:=SlC.int (j:=1) HI1.out.1 (x:=r1) rfl
 simp only[Option.some.injEq,Addr.mk.injEq,and_true] at hgo
 obtain ⟨rfl,rfl⟩:=hgo
 have hgl:=zac hgc
 rw[Nat.add_zero] at hgc
 simp only[List.length_cons] at hll
 subst hll
 have HRI:=zh hri
 have HRJ:=zh hri'
 clear hri hri'
 go_enter func81,ntmps81
 go_upto_region 1 with fail
 rw[HW.out]
 go_upto_region 17 with fail
 have HDL:=zh (fun (W3:World) (hb:Below W1.heap.size W1 W3)=>zal 12 0 r0 r1 [] none 0 0 W3 (HM.out.keep hb) hcode (by constructor<;>omega) (by constructor<;>omega) HRI.out HRJ.out (IntsM.nil _ _))
 have HD:=zh ((Below.refl W1.heap.size W1).drew)
 refine zaa (Below W1.heap.size W1) 8 (by kernel_rfl) (by kernel_rfl) HD.out ?_
 intro T0 _ WW HWW HWW2
 have z0:∀t,(WW t).cell? _=_:=fun t=>((HWW t).cell (p:=⟨gb,goff,none⟩) hgl).trans hgc
 have z1:∀t,(WW t).cell? _=_:=fun t=>((HWW t).cell (p:=⟨gb,goff+1,none⟩) hgl).trans hgd
 have HWH:=zh HWW
 clear HWW HWW2
 simp only[List.take_succ_cons,List.take_zero,List.drop_succ_cons,List.drop_zero]
 repeat (go_big_quiet_step (fail))
 refine wpQuiet_nil ?_
 intro t'
 obtain ⟨W3,hW3⟩:∃W3,WW t'=W3:=⟨_,rfl⟩
 have HB3:=zh (show Below W1.heap.size W1 W3 from hW3 ▸ HWH.out t')
 rw[hW3]
 clear z0 z1 hW3 HWH
 have HL:=zh (HDL.out W3 HB3.out)
 clear e0 e1 el
 go_wp2_with fail
 with_reducible refine HL.out.mono ?_
 rintro r w3 ⟨rfl,K3,hg3⟩
 have HG3:=zh (((ZkGo.refl HM.out).after HB3.out).next hg3)
 have HL2:=zh (zal 4 d 0 0 [] none 0 0 w3 HG3.out.inn (by simp only[MSt.put,List.length_append,List.length_singleton];have:=HRO.out.1;omega) (by constructor<;>omega) hdi (by constructor<;>omega) (by constructor<;>omega) (IntsM.nil _ _))
 clear hg3 HL hgc hgl hgd
 go_wp2_with fail
 with_reducible refine HL2.out.mono ?_
 rintro r w4 ⟨rfl,K4,hg4⟩
 have HG9:=zh ((HG3.out.next hg4).before HB1.out hsz)
 clear hg4 HL2
 go_wp2_with fail
 first | go_end0 | (refine bodyPost_ret (results_none rfl _ _ _) rfl ?_) | fail
 exact ⟨rfl,_,HG9.out⟩
theorem zgn (n:Int) (ov ot:Option Addr) (lv cvv lt ct:Nat) (rs:List Int) (hct:2≤rs.length) (ol:Option Addr) (ll cl:Nat) (B base mb:Nat) (K:KV) (X:Nat→Prop) (s:MSt) (d:Int) (W:World) (hm:ZkIn W B base mb K X s) (hi:IntsM W (fun b=>SZ mb K b∨X b) rs (.slice ol ll cl)) (hn:I64 n) (hroom:Room s 2) (hd:0≤d∧d≤1900000) :
  Calls prog 81 #[.pointer (some ⟨mb,0,none⟩),.agg #[.int .i64 18,.int .i64 n,.slice ov lv cvv,.slice ot lt ct],.int .i64 d,.slice ol ll cl] W fun r w'=>r=.returned (.tuple #[])∧∃K',ZkGo B base mb K K' X (Mk.strict 18 n d rs s) W w':=by
 obtain ⟨W1,hW1⟩:∃W1,W.alloc (.cells #[.int .i64 18,.int .i64 n,.slice ov lv cvv,.slice ot lt ct] 27)=W1:=⟨_,rfl⟩
 have HB1:=zh (show Below W.heap.size W W1 from by rw[←hW1];exact Below.one W _)
 have HBX:=zh (show BoxL W1 W.heap.size 27 [.int .i64 18,.int .i64 n,.slice ov lv cvv,.slice ot lt ct] from by rw[←hW1];exact BoxL.new rfl _ _)
 have HM:=zh (hm.keep HB1.out)
 have hsz:=hm.size
 have HW:=zh hW1
 have HI1:=zh (hi.below HB1.out)
 have HN:=zh hn
 have HRO:=zh hroom
 have hcode:s.code.length≤1000000:=by have:=hroom.1;omega
 have hdi:I64 d:=⟨by omega,by omega⟩
 have e0:=HBX.out.cell 0 rfl
 have e1:=HBX.out.cell 1 rfl
 have el:=HBX.out.lt
 obtain ⟨hll,hlc,hlm⟩:=HI1.out.1.lens
 clear hm hW1 hi hn hroom
 obtain ⟨r0,r1,rl,rfl⟩:∃r0 r1 rl,rs=r0::r1::rl:=by
  match rs,hct with
  | a::b::c,_=>exact ⟨a,b,c,rfl⟩
 obtain ⟨gb,goff,hgo,hgb,hgc,hri⟩:=SlC.int (j:=0) HI1.out.1 (x:=r0) rfl
 subst hgo
 obtain ⟨gb',goff',hgo,hgb',hgd,hri'⟩:=SlC.int (j:=1) HI1.out.1 (x:=r1) rfl
 simp only[Option.some.injEq,Addr.mk.injEq,and_true] at hgo
 obtain ⟨rfl,rfl⟩:=hgo
 have hgl:=zac hgc
 rw[Nat.add_zero] at hgc
 simp only[List.length_cons] at hll
 subst hll
 have HRI:=zh hri
 have HRJ:=zh hri'
 clear hri hri'
 go_enter func81,ntmps81
 go_upto_region 1 with fail
 rw[HW.out]
 go_upto_region 20 with fail
 have HDL:=zh (fun (W3:World) (hb:Below W1.heap.size W1 W3)=>zal 13 0 r0 r1 [] none 0 0 W3 (HM.out.keep hb) hcode (by constructor<;>omega) (by constructor<;>omega) HRI.out HRJ.out (IntsM.nil _ _))
 have HD:=zh ((Below.refl W1.heap.size W1).drew)
 refine zaa (Below W1.heap.size W1) 8 (by kernel_rfl) (by kernel_rfl) HD.out ?_
 intro T0 _ WW HWW HWW2
 have z0:∀t,(WW t).cell? _=_:=fun t=>((HWW t).cell (p:=⟨gb,goff,none⟩) hgl).trans hgc
 have z1:∀t,(WW t).cell? _=_:=fun t=>((HWW t).cell (p:=⟨gb,goff+1,none⟩) hgl).trans hgd
 have HWH:=zh HWW
 clear HWW HWW2
 simp only[List.take_succ_cons,List.take_zero,List.drop_succ_cons,List.drop_zero]
 repeat (go_big_quiet_step (fail))
 refine wpQuiet_nil ?_
 intro t'
 obtain ⟨W3,hW3⟩:∃W3,WW t'=W3:=⟨_,rfl⟩
 have HB3:=zh (show Below W1.heap.size W1 W3 from hW3 ▸ HWH.out t')
 rw[hW3]
 clear z0 z1 hW3 HWH
 have HL:=zh (HDL.out W3 HB3.out)
 clear e0 e1 el
 go_wp2_with fail
 with_reducible refine HL.out.mono ?_
 rintro r w3 ⟨rfl,K3,hg3⟩
 have HG3:=zh (((ZkGo.refl HM.out).after HB3.out).next hg3)
 have HL2:=zh (zal 4 d 0 0 [] none 0 0 w3 HG3.out.inn (by simp only[MSt.put,List.length_append,List.length_singleton];have:=HRO.out.1;omega) (by constructor<;>omega) hdi (by constructor<;>omega) (by constructor<;>omega) (IntsM.nil _ _))
 clear hg3 HL hgc hgl hgd
 go_wp2_with fail
 with_reducible refine HL2.out.mono ?_
 rintro r w4 ⟨rfl,K4,hg4⟩
 have HG9:=zh ((HG3.out.next hg4).before HB1.out hsz)
 clear hg4 HL2
 go_wp2_with fail
 first | go_end0 | (refine bodyPost_ret (results_none rfl _ _ _) rfl ?_) | fail
 exact ⟨rfl,_,HG9.out⟩
end
section
open Go Go.RowKit
mutual
def Trm.slim:Trm→Prop
 | .mk _ _ v t=>v.length≤1152921504606846976∧(t.length≤2199023255552∧Trm.slimL t)
def Trm.slimL:List Trm→Prop
 | []=>True
 | x::l=>Trm.slim x∧Trm.slimL l
end
theorem Trm.slimL_mem:∀{l:List Trm} {x:Trm},Trm.slimL l→x∈l→x.slim
 | y::l,x,h,hx=>by
  rw[Trm.slimL] at h
  rcases List.mem_cons.1 hx with rfl | hx
  ·exact h.1
  ·exact Trm.slimL_mem h.2 hx
theorem RCk.sized {W:World} {base cb:Nat} {bsl:Value} {nc nk:Int} {fr:Bool} {size:Int} {l:List Int} {ok:Bool} (h:RCk W base cb bsl nc nk fr size l ok) (q:Int):RCk (W.setCell ⟨cb,4,none⟩ (.int .i64 q)) base cb bsl nc nk fr q l ok:=
 ⟨h.box.set 4 _,zaV h.row _ _ (fun r hr e=>h.ne (by have e:r=cb:=e;rw[←e];exact hr)),h.ints⟩
theorem RCk.lt {W:World} {base cb:Nat} {bsl:Value} {nc nk:Int} {fr:Bool} {size:Int} {l:List Int} {ok:Bool} (h:RCk W base cb bsl nc nk fr size l ok):∀b,SR cb bsl b→b<W.heap.size:=fun b hb=>by
 rcases hb with rfl | hb
 ·exact h.box.lt
 ·exact zan h.row hb
def TPost (base cb:Nat) (bsl:Value) (nc nk:Int) (fr:Bool) (r:Option (Int × List Int)) (w:World) (e:Ending) (w':World):Prop:=
 e=.returned (.tuple #[])∧∃bsl',Turned (SR cb bsl) w w'∧(∀b,b<w.heap.size→SR cb bsl' b→SR cb bsl b)∧(∀s,r=some s→RCk w' base cb bsl' nc nk fr s.1 s.2 true)∧(r=none→∃size' l',RCk w' base cb bsl' nc nk fr size' l' false)
def RTermC (x:Trm):Prop:=∀(c0 c1 c2 c3:Value) (B base cb:Nat) (bsl:Value) (nc nk size:Int) (fr ok:Bool) (l sc:List Int) (scv:Value) (deep:Int) (W:World),TrmR W B x [c0,c1,c2,c3]→RCk W base cb bsl nc nk fr size l ok→IntsM W (SR cb bsl) sc scv→(∀b,SR cb bsl b→B≤b)→B≤base→base≤W.heap.size →
 (ok=true→Trm.newB (fun _=>false) l=true)→(ok=true→sc.length≤l.length)→0≤size→size≤20000→0≤deep→deep≤401→x.slim →
 Calls prog 36 #[.pointer (some ⟨cb,0,none⟩),.agg #[c0,c1,c2,c3],scv,.int .i64 deep] W (TPost base cb bsl nc nk fr (if ok=true then Trm.rchk nc nk fr x sc deep (size,l) else none) W)
theorem zfn {nc nk:Int} {fr:Bool} {op:Int} {v:List Int} {sc:List Int} {deep:Int}:∀{ts:List Trm} {j:Nat} {x:Trm} {s:Int × List Int},ts[j]?=some x→Trm.rchkL nc nk fr op v (ts.drop j) sc deep s=if op=9∧x.op≠19∧j+1≠ts.length then none else (Trm.rchk nc nk fr x (if j+1=ts.length∨op=9 then sc++v else sc) (deep+1) s).bind fun s'=>Trm.rchkL nc nk fr op v (ts.drop (j+1)) sc deep s'
 | [],j,x,s,h=>by simp at h
 | [y],0,x,s,h=>by
  obtain rfl:y=x:=by simpa using h
  simp only[List.drop_zero,Nat.zero_add,List.drop_succ_cons,List.length_singleton,ne_eq,not_true_eq_false,and_false,↓reduceIte,true_or,Trm.rchkL]
  cases Trm.rchk nc nk fr y (sc++v) (deep+1) s<;>rfl
 | y::z::l,0,x,s,h=>by
  obtain rfl:y=x:=by simpa using h
  simp only[List.drop_zero,Nat.zero_add,List.drop_succ_cons,List.length_cons,Trm.rchkL]
  have h1:¬(1=l.length+1+1):=by omega
  have h2:¬(0+1=l.length+1+1):=by omega
  by_cases h9:op=9
  ·by_cases hx:y.op=19
   ·simp only[h9,hx,h1,ne_eq,not_true_eq_false,and_false,false_and,or_true,↓reduceIte]
    cases Trm.rchk nc nk fr y (sc++v) (deep+1) s<;>rfl
   ·simp only[h9,hx,h1,ne_eq,not_false_eq_true,and_self,↓reduceIte]
  ·simp only[h9,h1,ne_eq,false_and,or_self,↓reduceIte]
   cases Trm.rchk nc nk fr y sc (deep+1) s<;>rfl
 | y::l,j+1,x,s,h=>by
  have:=zfn (nc:=nc) (nk:=nk) (fr:=fr) (op:=op) (v:=v) (sc:=sc) (deep:=deep) (ts:=l) (j:=j) (x:=x) (s:=s) (by simpa using h)
  simpa using this
theorem zbp {W:World} {ops:Array Oper} {o:Oper} {a:Act} {K:Act→World→Prop} {Q:Exit→Act→World→Prop} {E:Prop} (hgd:o.guard=none) (s x:Operand)
  (ho:o.op=.call { callee:=.builtin .append,args:=#[s,x],argTypes:=#[24,24] }) (base B:Nat) (v:Value) (xs l:List Int) (hs:a.eval s=v) (hown:W.ownsRow base 3 1 v xs.length (xs.map (Value.int .i64)))
  (oa:Option Addr) (m c:Nat) (hx:a.eval x=.slice oa m c) (hsl:SlC W B 1 IntR l (.slice oa m c)) (hb:(xs.length+l.length)*8≤140737488355328) (hbase:base≤W.heap.size)
  (h:∀v' w',Hid (w'.ownsRow base 3 1 v' (xs++l).length ((xs++l).map (Value.int .i64)))→Hid (W.grownBy w' v.ownBlock)→K (a.put o.dst v') w') :
  if Region.wanted o (yielded ops a.tmps)=true then Oper.wp prog o a W K Q else E:=by
 have hw:Region.wanted o (yielded ops a.tmps)=true:=by simp[Region.wanted,hgd]
 rw[if_pos hw]
 exact zbn (ops:=ops) hw (zaA hgd s x ho base B v xs l hs hown oa m c hx hsl hb hbase fun v' w' h1 h2=>⟨rfl,h v' w' (zh h1) (zh h2)⟩)
theorem zbq {nc nk:Int} {fr:Bool} {op:Int} {v:List Int} {ts:List Trm} {sc:List Int} {deep:Int} {R:Option (Int × List Int)} {x:Trm} {j:Nat} {sj:Int} {lj:List Int} {base cb:Nat} {bs bsl4:Value} {wc wr w1 w6:World} {e:Ending} (ok':Bool) (hx:ts[j]?=some x) (hok:ok'=true↔¬(op=9∧x.op≠19∧j+1≠ts.length)) (hR:Trm.rchkL nc nk fr op v (ts.drop j) sc deep (sj,lj)=R) (hn:Trm.newB (fun _=>false) lj=true) (hl:sc.length+v.length≤lj.length) (h0:0≤sj)
  (ht:Turned (SR cb bsl4) wc wr) (hless:∀b,b<wc.heap.size→SR cb bs b→SR cb bsl4 b) (ht1:Turned (SR cb bs) wr w1) (hp:TPost base cb bs nc nk fr (if ok'=true then Trm.rchk nc nk fr x (if j+1=ts.length∨op=9 then sc++v else sc) (deep+1) (sj,lj) else none) w1 e w6) :
  e=.returned (.tuple #[])∧∃(bs':Value) (okj:Bool) (s':Int) (l':List Int),RCk w6 base cb bs' nc nk fr s' l' okj∧Turned (SR cb bsl4) wc w6∧(∀b,b<wc.heap.size→SR cb bs' b→SR cb bsl4 b) ∧
   (okj=true→Trm.rchkL nc nk fr op v (ts.drop (j+1)) sc deep (s',l')=R∧Trm.newB (fun _=>false) l'=true∧sc.length+v.length≤l'.length∧0≤s'∧s'≤20000)∧(okj=false→R=none):=by
 obtain ⟨he,bs',hT,hL,hy,hno⟩:=hp
 have hTT:Turned (SR cb bsl4) wc w6:=ht.trans (ht1.next hT) fun b hb h=>hless b hb h
 have hLL:∀b,b<wc.heap.size→SR cb bs' b→SR cb bsl4 b:=fun b hb h=>hless b hb (hL b (Nat.lt_of_lt_of_le (Nat.lt_of_lt_of_le hb ht.size) ht1.size) h)
 refine ⟨he,?_⟩
 rw[zfn hx] at hR
 cases ok' with
 | false=>
  have h9:op=9∧x.op≠19∧j+1≠ts.length:=Decidable.byContradiction fun h=>by have:=hok.2 h;cases this
  rw[if_pos h9] at hR
  obtain ⟨s',l',hc⟩:=hno (by simp)
  exact ⟨bs',false,s',l',hc,hTT,hLL,fun h=>(by cases h),fun _=>hR.symm⟩
 | true=>
  rw[if_neg (hok.1 rfl)] at hR
  rw[if_pos rfl] at hy hno
  cases hr:Trm.rchk nc nk fr x (if j+1=ts.length∨op=9 then sc++v else sc) (deep+1) (sj,lj) with
  | none=>
   rw[hr] at hR
   obtain ⟨s',l',hc⟩:=hno hr
   exact ⟨bs',false,s',l',hc,hTT,hLL,fun h=>(by cases h),fun _=>hR.symm⟩
  | some s'=>
   rw[hr] at hR
   have hc:=hy s' hr
   obtain ⟨_,rfl,g3,g4⟩:=Trm.rsay x nc nk fr _ _ (sj,lj) s' hn hr
   exact ⟨bs',true,_,_,hc,hTT,hLL,fun _=>⟨hR,g3,by simp only[List.length_append];omega,by dsimp only at g4 ⊢;omega,g4⟩,fun h=>(by cases h)⟩
theorem zeN {w4 w6:World} {X:Obj} {r:Option Nat} (hg:(w4.alloc X).grownBy w6 r) (hr:∀b,r=some b→w4.heap.size≤b):Below w4.heap.size w4 w6:=
 (Below.one w4 X).grown hg (by simp) hr
theorem zhb {op:Int} {nv nt:Nat} (h:Trm.countsB op nv nt=true):nv≤nt:=by
 unfold Trm.countsB at h
 split at h
 ·have:=of_decide_eq_true h;omega
 ·rw[Bool.and_eq_true] at h
  have:=of_decide_eq_true h.1
  omega
theorem zaq (op n:Int) (v:List Int) (ts:List Trm) (ih:∀x∈ts,RTermC x)
  (HCT:Trm.sortB op=true→∀(ov ot:Option Addr) (lv cv lt ct:Nat) (w:World),lv≤9223372036854775806→Calls prog 71 #[.agg #[.int .i64 op,.int .i64 n,.slice ov lv cv,.slice ot lt ct]] w fun e w'=>e=.returned (.bool (Trm.countsB op lv lt))∧Below w.heap.size w w')
  (HNU:Trm.sortB op=true→∀(cb:Nat) (nc nk size:Int) (fr ok:Bool) (bsl:Value) (ov ot:Option Addr) (lv cv lt ct:Nat) (l:List Int) (sl:Value) (B:Nat) (w:World),BoxL w cb 81 [.int .i64 3,.int .i64 nc,.int .i64 nk,.bool fr,.int .i64 size,bsl,.bool ok]→SlC w B 1 IntR l sl→B≤w.heap.size →
   Calls prog 72 #[.pointer (some ⟨cb,0,none⟩),.agg #[.int .i64 op,.int .i64 n,.slice ov lv cv,.slice ot lt ct],sl] w fun e w'=>e=.returned (.bool (Trm.numberB nc nk fr (fun v=>l.contains v) op n))∧Below w.heap.size w w'):RTermC (.mk op n v ts):=by
 intro c0 c1 c2 c3 B base cb bsl nc nk size fr ok l sc scv deep W hv hc hsc hS hB1 hB2 hnew hlen h0 h1 h2 h3 hsl
 obtain ⟨vs',ts',he,hop,hn,hvs,hts⟩:=zas.1 hv
 simp only[List.cons.injEq,and_true] at he
 obtain ⟨rfl,rfl,rfl,rfl⟩:=he
 obtain ⟨ov,lv,cv,rfl⟩:=hvs.form
 obtain ⟨ot,lt,ct,rfl⟩:=hts.form
 obtain ⟨osc,lsc,csc,rfl⟩:=hsc.1.form
 obtain ⟨W2,hW2⟩:∃W2,(W.setCell ⟨cb,4,none⟩ (.int .i64 (size+1))).alloc (.cells #[.int .i64 op,.int .i64 n,.slice ov lv cv,.slice ot lt ct] 27)=W2:=⟨_,rfl⟩
 have hbelow:=Below.one W (.cells #[.int .i64 op,.int .i64 n,.slice ov lv cv,.slice ot lt ct] 27)
 have HW:=zh hW2
 have HT2:=zh (show Turned (SR cb bsl) W W2 from by rw[←hW2];exact (Turned.set (S:=SR cb bsl) W _ _ (.inl rfl)).next (Turned.of_below (Below.one _ _)))
 have HC2:=zh (show RCk W2 base cb bsl nc nk fr (size+1) l ok from by rw[←hW2];exact (hc.sized _).keep (Below.one _ _))
 have HX2:=zh (show BoxL W2 W.heap.size 27 [.int .i64 op,.int .i64 n,.slice ov lv cv,.slice ot lt ct] from by
  rw[←hW2]
  exact BoxL.new (by rw[World.size_setCell]) _ _)
 have HLT:=zh hc.lt
 have HS2:=zh (hsc.kept HT2.out (fun _ _ h=>h) (fun _ _ h=>h))
 have c4:=(hc.box.keep hbelow).cell 4 rfl
 have cz:=(hc.box.keep hbelow).free 4
 have cl:=hc.box.lt
 have HSB:=zh hS
 have HV:=zh hvs
 have HT:=zh hts
 have HLV:=zh hvs.lens.1
 have HLT2:=zh hts.lens.1
 have HNW:=zh hnew
 have HLN:=zh hlen
 have HIH:=zh ih
 have HCT:=zh HCT
 have HNU:=zh HNU
 rw[Trm.slim] at hsl
 have HSL:=zh hsl.2.2
 have hlt41:lt≤2199023255552:=by have:=hsl.2.1;have:=hts.lens.1;omega
 have hlv:lv≤9223372036854775806:=by have:=hsl.1;have:=hvs.lens.1;omega
 have hcap:lt≤ct∧ct≤9223372036854775807:=hts.lens.2
 have hsz2:W.heap.size<W2.heap.size:=HX2.out.lt
 have hBW:B≤W.heap.size:=Nat.le_trans hB1 hB2
 obtain ⟨q,hq⟩:∃q,(decide (deep≤400)&&(decide (size+1≤20000)&&(Trm.sortB op&&(Trm.countsB op v.length ts.length&&Trm.numberB nc nk fr (fun x=>sc.contains x) op n))))=q:=⟨_,rfl⟩
 have HQ:=zh hq
 obtain ⟨R,hR⟩:∃R,(if ok=true then Trm.rchk nc nk fr (.mk op n v ts) sc deep (size,l) else none)=R:=⟨_,rfl⟩
 rw[hR]
 have HR:=zh hR
 clear hW2 hbelow hc hv hsc hvs hts hnew hlen hS ih hsl hq hR
 go_enter func36,ntmps36
 go_upto_region 2 with fail
 rw[HW.out]
 clear c4 cz cl
 have HD:=zh ((Below.refl W2.heap.size W2).drew)
 go_cut [49] from 12 to 49 (fun c wx=>c=.bool (!q)∧Hid (Below W2.heap.size W2 wx))
 case first=>as_aux_lemma=>
  by_cases a0:400<deep
  ·have g0:decide (400<deep)=true:=decide_eq_true (by omega)
   obtain rfl:q=false:=by rw[←HQ.out];rw[decide_eq_false (show ¬deep≤400 by omega)];rfl
   refine zab (Below W2.heap.size W2) (by kernel_rfl) (by kernel_rfl) HD.out ?_
   intro T0 _ WW HWW HWW2
   have HWH:=zh HWW
   clear HWW HWW2
   repeat (go_big_quiet_step (fail))
   refine wpQuiet_nil ?_
   intro t'
   have HBB:=zh (HWH.out t')
   clear HWH
   go_wp2_with fail
   go_meet
   exact ⟨rfl,HBB⟩
  by_cases a1:20000<size+1
  ·have g0:decide (400<deep)=false:=decide_eq_false (by omega)
   have g1:decide (20000<size+1)=true:=decide_eq_true (by omega)
   obtain rfl:q=false:=by rw[←HQ.out];rw[decide_eq_false (show ¬size+1≤20000 by omega)];simp
   refine zab (Below W2.heap.size W2) (by kernel_rfl) (by kernel_rfl) HD.out ?_
   intro T0 _ WW HWW HWW2
   have y4:∀t,(WW t).cell? _=_:=fun t=>((HWW t).cell (p:=⟨cb,4,none⟩) HC2.out.box.lt).trans (HC2.out.box.cell 4 rfl)
   have HWH:=zh HWW
   clear HWW HWW2
   repeat (go_big_quiet_step (fail))
   refine wpQuiet_nil ?_
   intro t'
   have HBB:=zh (HWH.out t')
   clear HWH y4
   go_wp2_with fail
   go_meet
   exact ⟨rfl,HBB⟩
  cases hso:Trm.sortB op with
  | false=>
   have g0:decide (400<deep)=false:=decide_eq_false (by omega)
   have g1:decide (20000<size+1)=false:=decide_eq_false (by omega)
   obtain rfl:q=false:=by rw[←HQ.out];rw[hso];simp
   refine zab (Below W2.heap.size W2) (by kernel_rfl) (by kernel_rfl) HD.out ?_
   intro T0 _ WW HWW HWW2
   have y4:∀t,(WW t).cell? _=_:=fun t=>((HWW t).cell (p:=⟨cb,4,none⟩) HC2.out.box.lt).trans (HC2.out.box.cell 4 rfl)
   have x0:∀t,(WW t).cell? _=_:=fun t=>((HWW t).cell (p:=⟨W.heap.size,0,none⟩) HX2.out.lt).trans (HX2.out.cell 0 rfl)
   have y0:∀t,(WW t).cell? _=_:=fun t=>((HWW t).cell (p:=⟨cb,0,none⟩) HC2.out.box.lt).trans (HC2.out.box.cell 0 rfl)
   have HSO:Hid (∀t,Calls prog 70 #[.int .i64 op,.int .i64 3] (WW t) fun e w'=>e=.returned (.bool false)∧∃t',w'=WW t'):=zh (fun t=>zak HWW2 ((zcf op (WW t)).mono fun e w' h=>⟨by rw[h.1,hso],((HWW t).trans (h.2.mono (HWW t).size))⟩))
   have HWH:=zh HWW
   clear HWW HWW2
   repeat (go_big_quiet_step (first | (go_at_call 70;exact HSO.out _) | fail))
   refine wpQuiet_nil ?_
   intro t'
   have HBB:=zh (HWH.out t')
   clear HWH y4 x0 y0 HSO
   go_wp2_with fail
   go_meet
   exact ⟨rfl,HBB⟩
  | true=>
  cases hco:Trm.countsB op lv lt with
  | false=>
   have g0:decide (400<deep)=false:=decide_eq_false (by omega)
   have g1:decide (20000<size+1)=false:=decide_eq_false (by omega)
   obtain rfl:q=false:=by rw[←HQ.out];rw[←HLV.out,←HLT2.out,hco];simp
   refine zab (Below W2.heap.size W2) (by kernel_rfl) (by kernel_rfl) HD.out ?_
   intro T0 _ WW HWW HWW2
   have y4:∀t,(WW t).cell? _=_:=fun t=>((HWW t).cell (p:=⟨cb,4,none⟩) HC2.out.box.lt).trans (HC2.out.box.cell 4 rfl)
   have x0:∀t,(WW t).cell? _=_:=fun t=>((HWW t).cell (p:=⟨W.heap.size,0,none⟩) HX2.out.lt).trans (HX2.out.cell 0 rfl)
   have y0:∀t,(WW t).cell? _=_:=fun t=>((HWW t).cell (p:=⟨cb,0,none⟩) HC2.out.box.lt).trans (HC2.out.box.cell 0 rfl)
   have x1:∀t,(WW t).cell? _=_:=fun t=>((HWW t).cell (p:=⟨W.heap.size,1,none⟩) HX2.out.lt).trans (HX2.out.cell 1 rfl)
   have x2:∀t,(WW t).cell? _=_:=fun t=>((HWW t).cell (p:=⟨W.heap.size,2,none⟩) HX2.out.lt).trans (HX2.out.cell 2 rfl)
   have x3:∀t,(WW t).cell? _=_:=fun t=>((HWW t).cell (p:=⟨W.heap.size,3,none⟩) HX2.out.lt).trans (HX2.out.cell 3 rfl)
   have HSO:Hid (∀t,Calls prog 70 #[.int .i64 op,.int .i64 3] (WW t) fun e w'=>e=.returned (.bool true)∧∃t',w'=WW t'):=zh (fun t=>zak HWW2 ((zcf op (WW t)).mono fun e w' h=>⟨by rw[h.1,hso],((HWW t).trans (h.2.mono (HWW t).size))⟩))
   have HCO:Hid (∀t,Calls prog 71 #[.agg #[.int .i64 op,.int .i64 n,.slice ov lv cv,.slice ot lt ct]] (WW t) fun e w'=>e=.returned (.bool false)∧∃t',w'=WW t'):=zh (fun t=>zak HWW2 ((HCT.out hso ov ot lv cv lt ct (WW t) hlv).mono fun e w' h=>⟨by rw[h.1,hco],((HWW t).trans (h.2.mono (HWW t).size))⟩))
   have HWH:=zh HWW
   clear HWW HWW2
   repeat (go_big_quiet_step (first | (go_at_call 70;exact HSO.out _) | (go_at_call 71;exact HCO.out _) | fail))
   refine wpQuiet_nil ?_
   intro t'
   have HBB:=zh (HWH.out t')
   clear HWH y4 x0 y0 x1 x2 x3 HSO HCO
   go_wp2_with fail
   go_meet
   exact ⟨rfl,HBB⟩
  | true=>
   have hno:Trm.numberB nc nk fr (fun x=>sc.contains x) op n=q:=by rw[←HQ.out,←HLV.out,←HLT2.out,hso,hco,decide_eq_true (show deep≤400 by omega),decide_eq_true (show size+1≤20000 by omega)];simp
   have g0:decide (400<deep)=false:=decide_eq_false (by omega)
   have g1:decide (20000<size+1)=false:=decide_eq_false (by omega)
   refine zab (Below W2.heap.size W2) (by kernel_rfl) (by kernel_rfl) HD.out ?_
   intro T0 _ WW HWW HWW2
   have y4:∀t,(WW t).cell? _=_:=fun t=>((HWW t).cell (p:=⟨cb,4,none⟩) HC2.out.box.lt).trans (HC2.out.box.cell 4 rfl)
   have x0:∀t,(WW t).cell? _=_:=fun t=>((HWW t).cell (p:=⟨W.heap.size,0,none⟩) HX2.out.lt).trans (HX2.out.cell 0 rfl)
   have y0:∀t,(WW t).cell? _=_:=fun t=>((HWW t).cell (p:=⟨cb,0,none⟩) HC2.out.box.lt).trans (HC2.out.box.cell 0 rfl)
   have x1:∀t,(WW t).cell? _=_:=fun t=>((HWW t).cell (p:=⟨W.heap.size,1,none⟩) HX2.out.lt).trans (HX2.out.cell 1 rfl)
   have x2:∀t,(WW t).cell? _=_:=fun t=>((HWW t).cell (p:=⟨W.heap.size,2,none⟩) HX2.out.lt).trans (HX2.out.cell 2 rfl)
   have x3:∀t,(WW t).cell? _=_:=fun t=>((HWW t).cell (p:=⟨W.heap.size,3,none⟩) HX2.out.lt).trans (HX2.out.cell 3 rfl)
   have HSO:Hid (∀t,Calls prog 70 #[.int .i64 op,.int .i64 3] (WW t) fun e w'=>e=.returned (.bool true)∧∃t',w'=WW t'):=zh (fun t=>zak HWW2 ((zcf op (WW t)).mono fun e w' h=>⟨by rw[h.1,hso],((HWW t).trans (h.2.mono (HWW t).size))⟩))
   have HCO:Hid (∀t,Calls prog 71 #[.agg #[.int .i64 op,.int .i64 n,.slice ov lv cv,.slice ot lt ct]] (WW t) fun e w'=>e=.returned (.bool true)∧∃t',w'=WW t'):=zh (fun t=>zak HWW2 ((HCT.out hso ov ot lv cv lt ct (WW t) hlv).mono fun e w' h=>⟨by rw[h.1,hco],((HWW t).trans (h.2.mono (HWW t).size))⟩))
   have HNO:Hid (∀t,Calls prog 72 #[.pointer (some ⟨cb,0,none⟩),.agg #[.int .i64 op,.int .i64 n,.slice ov lv cv,.slice ot lt ct],.slice osc lsc csc] (WW t) fun e w'=>e=.returned (.bool q)∧∃t',w'=WW t'):=zh (fun t=>zak HWW2 ((HNU.out hso cb nc nk _ fr ok bsl ov ot lv cv lt ct sc _ _ (WW t) (HC2.out.box.keep (HWW t)) (HS2.out.1.kept (HWW t) fun _ _ _ h=>h) (HWW t).size).mono fun e w' h=>⟨by rw[h.1,hno],((HWW t).trans (h.2.mono (HWW t).size))⟩))
   have HWH:=zh HWW
   clear HWW HWW2
   repeat (go_big_quiet_step (first | (go_at_call 70;exact HSO.out _) | (go_at_call 71;exact HCO.out _) | (go_at_call 72;exact HNO.out _) | fail))
   refine wpQuiet_nil ?_
   intro t'
   have HBB:=zh (HWH.out t')
   clear HWH y4 x0 y0 x1 x2 x3 HSO HCO HNO
   go_wp2_with fail
   go_meet
   exact ⟨rfl,HBB⟩
 case rest=>
 obtain ⟨rfl,HB3⟩:=hcut
 have HC3:=zh (HC2.out.keep HB3.out)
 have HX3:=zh (HX2.out.keep HB3.out)
 have HT3:=zh (HT2.out.next (Turned.of_below HB3.out))
 have HS3:=zh (HS2.out.below HB3.out)
 have hzB:=HB3.out.size
 clear HC2 HX2 HT2 HS2 HD
 cases q with
 | false=>
  obtain rfl:R=none:=by
   rw[←HR.out]
   cases ok with
   | false=>rfl
   | true=>rw[if_pos rfl,Trm.rchk,HQ.out];rfl
  have c6:=HC3.out.box.cell 6 rfl
  have cz:=HC3.out.box.free 6
  have cl:=HC3.out.box.lt
  go_upto_region 4 with fail
  obtain ⟨W4,hW4⟩:∃W4,wc.setCell ⟨cb,6,none⟩ (.bool false)=W4:=⟨_,rfl⟩
  have HC4:=zh (hW4 ▸ HC3.out.failed false)
  have HT4:=zh (show Turned (SR cb bsl) W W4 from hW4 ▸ HT3.out.next (Turned.set _ ⟨cb,6,none⟩ (.bool false) (.inl rfl)))
  rw[hW4]
  clear c6 cz cl hW4 HC3 HX3 HT3 HS3
  have c6:=HC4.out.box.cell 6 rfl
  have cl:=HC4.out.box.lt
  go_wp2_with fail
  first | go_end0 | (refine bodyPost_ret (results_none rfl _ _ _) rfl ?_) | fail
  exact ⟨rfl,bsl,HT4.out,fun _ _ h=>h,fun s h=>(by cases h),fun _=>⟨_,_,HC4.out⟩⟩
 | true=>
 cases ok with
 | false=>
  obtain rfl:R=none:=by rw[←HR.out];rfl
  have c6:=HC3.out.box.cell 6 rfl
  have cl:=HC3.out.box.lt
  go_wp2_with fail
  first | go_end0 | (refine bodyPost_ret (results_none rfl _ _ _) rfl ?_) | fail
  exact ⟨rfl,bsl,HT3.out,fun _ _ h=>h,fun s h=>(by cases h),fun _=>⟨_,_,HC3.out⟩⟩
 | true=>
 have HR2:=zh (show (if Trm.newB (fun _=>false) (l++v)=true then Trm.rchkL nc nk fr op v ts sc deep (size+1,l++v) else none)=R from by rw[←HR.out,if_pos rfl,Trm.rchk,HQ.out,if_pos rfl])
 have h1s:size+1≤20000:=by
  have h:=HQ.out
  simp only[Bool.and_eq_true,decide_eq_true_eq] at h
  exact h.2.1
 have h3s:deep≤400:=by
  have h:=HQ.out
  simp only[Bool.and_eq_true,decide_eq_true_eq] at h
  exact h.1
 have h7:op≠7:=fun e=>by
  have h:=HQ.out
  simp only[Bool.and_eq_true] at h
  rw[e] at h
  exact absurd h.2.2.1 (by decide)
 have hv8:v.length≤2199023255552:=by
  have h:=HQ.out
  simp only[Bool.and_eq_true] at h
  have h5:=zhb h.2.2.2.1
  have:=HLT2.out
  omega
 clear HR HQ
 have c6:=HC3.out.box.cell 6 rfl
 have cl:=HC3.out.box.lt
 have x2:=HX3.out.cell 2 rfl
 have xl:=HX3.out.lt
 have HV3:=zh (HV.out.kept (HT3.out.below HSB.out hBW) fun _ _ _ h=>h)
 have hz3:=HT3.out.size
 go_wp2_with fail
 refine (zew base cb bsl nc nk (size+1) fr l v ov lv cv B wc HC3.out HV3.out (by omega) HSB.out ⟨hB1,by omega⟩ (HNW.out (by simp))).mono ?_
 intro e w4 hp4
 obtain ⟨rfl,bsl4,hT4,hL4,hy4,hn4⟩:=hp4
 obtain ⟨qb,hqb⟩:∃qb,Trm.newB (fun _=>false) (l++v)=qb:=⟨_,rfl⟩
 rw[hqb] at hy4 hn4
 obtain ⟨size4,l4,hc4,hs4⟩:∃size4 l4,RCk w4 base cb bsl4 nc nk fr size4 l4 qb∧(qb=true→size4=size+1∧l4=l++v):=by
  cases qb with
  | true=>exact ⟨_,_,hy4 rfl,fun _=>⟨rfl,rfl⟩⟩
  | false=>
   obtain ⟨s',l',h⟩:=hn4 rfl
   exact ⟨s',l',h,fun h=>(by cases h)⟩
 have HQB:=zh hqb
 have HC4:=zh hc4
 have HS4':=zh hs4
 have HX4:=zh (hT4.box HX3.out (fun hs=>absurd (HLT.out _ hs) (Nat.lt_irrefl _)))
 have HI4:=zh (HS3.out.kept hT4 (fun _ _ h=>h) hL4)
 have HT4:=zh (HT3.out.next hT4)
 have HL4:=zh (show ∀b,b<W.heap.size→SR cb bsl4 b→SR cb bsl b from fun b hb h=>hL4 b (by omega) h)
 have HNS:=zh (show ¬SR cb bsl4 W.heap.size from fun h=>absurd (HLT.out _ (hL4 _ (by omega) h)) (Nat.lt_irrefl _))
 have hz4:wc.heap.size≤w4.heap.size:=hT4.size
 clear hqb hc4 hs4 hT4 hL4 hy4 hn4 c6 cl x2 xl HC3 HX3 HT3 HS3 HB3 HV3
 have HV4:=zh (HV.out.kept (HT4.out.below HSB.out hBW) fun _ _ _ h=>h)
 have hsc8:sc.length≤1000001:=Nat.le_trans (HLN.out (by simp)) (Trm.newB_short (HNW.out (by simp)))
 go_upto_region 6 with fail
 go_cut [8] from 12 to 67 (fun c wx=>(∃o' n' c',c=.slice o' n' c')∧Hid (IntsM wx (SR cb bsl4) (sc++v) c)∧Hid (Below w4.heap.size w4 wx))
 case first=>as_aux_lemma=>
  have x2:=HX4.out.cell 2 rfl
  have xl:=HX4.out.lt
  go_region_law (first
   | (refine zbp rfl (.tmp 62) (.tmp 63) rfl w4.heap.size w4.heap.size (.slice (some ⟨w4.heap.size,0,none⟩) 0 0) [] sc rfl (zaN rfl (Nat.le_refl _) 3 1 0 [] rfl (by decide)) osc lsc csc rfl (HI4.out.1.kept (Below.one w4 (.cells #[] 3)).drew fun _ _ _ h=>h) (by simp;omega) (by simp) ?_;intro v6 w6 HO6 HG6;have HB6:=zh (zeN (zcb HG6.out) (fun b h=>by simp only[Value.ownBlock,Option.some.injEq] at h;omega));have x6:=(HX4.out.keep HB6.out).cell 2 rfl;have xl6:=(HX4.out.keep HB6.out).lt)
   | (refine zbp rfl (.tmp 64) (.tmp 66) rfl w4.heap.size B v6 sc v rfl (by simpa using HO6.out) ov lv cv rfl (HV4.out.kept (HB6.out.mono (by omega)) fun _ _ _ h=>h) (by omega) (HB6.out.size) ?_;intro v7 w7 HO7 HG7)
   | fail)
  all_goals
   have hge:∀b,v7.ownBlock=some b→w4.heap.size≤b:=fun b h=>zao HO7.out h
   have hb7:Below w4.heap.size w4 w7:=HB6.out.grown HG7.out HB6.out.size (fun b h=>zao HO6.out h)
   have HIN:=zh (show IntsM w7 (SR cb bsl4) (sc++v) v7 from IntsM.of_row HO7.out (fun y hy=>(List.mem_append.1 hy).elim (HI4.out.1.i64 y) (HV4.out.i64 y)) (fun b h hs=>by have:=hge b h;have:=HC4.out.lt b hs;omega))
   have HB7:=zh hb7
   clear hb7 hge
   have hfm:∃o' n' c',v7=.slice o' n' c':=by
    obtain ⟨o',n',c',h,_⟩:=HIN.out.1
    exact ⟨o',n',c',h⟩
   go_wp2_with fail
   go_meet
   exact ⟨hfm,HIN,HB7⟩
 case rest=>
 obtain ⟨⟨o8,n8,c8,rfl⟩,HI8,HB8⟩:=hcut
 have HX5:=zh (HX4.out.keep HB8.out)
 have HC5:=zh (HC4.out.keep HB8.out)
 have HI5:=zh (HI4.out.below HB8.out)
 have HT5:=zh (HT4.out.next (Turned.of_below HB8.out))
 have hz5:=HB8.out.size
 clear HX4 HC4 HI4 HT4 HV4
 have HY5:=zh (show (qb=true→Trm.rchkL nc nk fr op v (ts.drop 0) sc deep (size4,l4)=R∧Trm.newB (fun _=>false) l4=true∧sc.length+v.length≤l4.length∧0≤size4∧size4≤20000)∧(qb=false→R=none) from by
  have hr:=HR2.out
  rw[HQB.out] at hr
  refine ⟨fun h=>?_,fun h=>?_⟩
  ·obtain ⟨rfl,rfl⟩:=HS4'.out h
   rw[if_pos h] at hr
   have:=HLN.out (by simp)
   have hn:=HQB.out
   rw[h] at hn
   exact ⟨hr,hn,by simp only[List.length_append];omega,by omega,h1s⟩
  ·rw[h] at hr
   exact hr.symm)
 clear HR2 HS4' HQB HNW
 go_wp2_with fail
 go_loopg [9] lt (fun g i wr=>∃(j:Nat) (bs:Value) (okj:Bool) (sj:Int) (lj:List Int),g=lt-j∧j≤lt∧i=.int .i64 j∧Hid (RCk wr base cb bs nc nk fr sj lj okj)∧Hid (Turned (SR cb bsl4) wc wr)∧Hid (∀b,b<wc.heap.size→SR cb bs b→SR cb bsl4 b) ∧
  Hid (okj=true→Trm.rchkL nc nk fr op v (ts.drop j) sc deep (sj,lj)=R∧Trm.newB (fun _=>false) lj=true∧sc.length+v.length≤lj.length∧0≤sj∧sj≤20000)∧Hid (okj=false→R=none))
 case atStart=>exact ⟨0,bsl4,qb,size4,l4,rfl,by omega,rfl,HC5,zh (Turned.refl _ _),zh (fun _ _ h=>h),zh HY5.out.1,zh HY5.out.2⟩
 case round=>
  obtain ⟨j,bs,okj,sj,lj,rfl,hj,rfl,HCJ,HTJ,HLJ,HYJ,HNJ⟩:=hrel
  have HXJ:=zh (HTJ.out.box HX5.out HNS.out)
  have HTW:=zh (show Turned (SR cb bsl) W wr from HT5.out.trans HTJ.out fun b hb h=>HL4.out b hb h)
  have HLW:=zh (show ∀b,b<W.heap.size→SR cb bs b→SR cb bsl b from fun b hb h=>HL4.out b hb (HLJ.out b (by omega) h))
  have x0:=HXJ.out.cell 0 rfl
  have x3:=HXJ.out.cell 3 rfl
  have xl:=HXJ.out.lt
  have c0:=HCJ.out.box.cell 0 rfl
  have c6:=HCJ.out.box.cell 6 rfl
  have cz:=HCJ.out.box.free 6
  have cl:=HCJ.out.box.lt
  cases okj with
  | false=>
   have HRN:=zh (HNJ.out rfl)
   by_cases hjl:j<lt
   ·go_wp2_with fail
    first | go_end0 | (refine bodyPost_ret (results_none rfl _ _ _) rfl ?_) | fail
    exact ⟨rfl,bs,HTW.out,HLW.out,fun s h=>(by rw[HRN.out] at h;cases h),fun _=>⟨_,_,HCJ.out⟩⟩
   ·go_wp2_with fail
    first | go_end0 | (refine bodyPost_ret (results_none rfl _ _ _) rfl ?_) | fail
    exact ⟨rfl,bs,HTW.out,HLW.out,fun s h=>(by rw[HRN.out] at h;cases h),fun _=>⟨_,_,HCJ.out⟩⟩
  | true=>
   by_cases hjl:j<lt
   ·obtain ⟨x,hx⟩:∃x,ts[j]?=some x:=⟨_,List.getElem?_eq_getElem (by rw[←HLT2.out];exact hjl)⟩
    obtain ⟨b9,off9,cs,ho9,hbB,hcl,hcell,hr⟩:=SlC.at HT.out (HTW.out.below HSB.out hBW) hx
    subst ho9
    match cs,hcl with
    | [d0,d1,d2,d3],_=>
     have e0:=hcell 0 _ rfl
     have e1:=hcell 1 _ rfl
     have e2:=hcell 2 _ rfl
     have e3:=hcell 3 _ rfl
     simp only[Nat.add_zero] at e0
     have el:=zac e0
     obtain ⟨qa,qb',qc,qd,qe,qf,rfl,rfl,rfl,rfl,_⟩:=TrmR.shape hr
     have HRX:=zh (TrmR.kept (HTW.out.below HSB.out hBW) _ _ hr)
     have HMX:=zh (HIH.out x (List.mem_of_getElem? hx))
     have HSX:=zh (Trm.slimL_mem HSL.out (List.mem_of_getElem? hx))
     obtain ⟨y1,y2,y3,y4,y5⟩:=HYJ.out rfl
     have HY1:=zh y1
     have HY2:=zh y2
     have HY3:=zh y3
     have HIJ:=zh (show IntsM wr (SR cb bs) sc (.slice osc lsc csc) from HI5.out.kept HTJ.out (fun _ _ h=>h) HLJ.out)
     have HKJ:=zh (show IntsM wr (SR cb bs) (sc++v) (.slice o8 n8 c8) from HI8.out.kept HTJ.out (fun _ _ h=>h) HLJ.out)
     have HSJ:=zh (show ∀b,SR cb bs b→B≤b from fun b h=>by
      by_cases hb:b<W.heap.size
      ·exact HSB.out b (HLW.out b hb h)
      ·omega)
     have HEX:=zh hx
     have hbr:base≤wr.heap.size:=Nat.le_trans hB2 HTW.out.size
     have HXK:=HXJ
     have HNB:=zh (show ¬SR cb bs W.heap.size from fun h=>HNS.out (HLJ.out _ (by omega) h))
     have HPT:=zh (show PartAt wr B b9 (off9+j*4) x (.int .i64 x.op) (.int .i64 x.n) (.slice qa qb' qc) (.slice qd qe qf) from ⟨hbB,e0,e1,e2,e3,HRX.out⟩)
     clear y1 y2 y3 hx hr hcell hcl HXJ HYJ HNJ
     have f7:(op==7)=false:=by simpa using h7
     by_cases hla:j+1=lt
     ·have f1:((j:Int)==(lt:Int)-1)=true:=by simp;omega
      by_cases h9:op=9
      ·have f9:(op==9)=true:=by simp[h9]
       have H9:=zh h9
       clear h9
       have HCA:=zh (HMX.out _ _ _ _ B base cb bs nc nk sj fr true lj (sc++v) _ (deep+1) wr HRX.out HCJ.out HKJ.out HSJ.out hB1 hbr (fun _=>HY2.out) (fun _=>by simp only[List.length_append];exact HY3.out) y4 y5 (by omega) (by omega) HSX.out)
       clear HRX HKJ HIJ HMX
       go_wp2_with fail
       with_reducible refine HCA.out.mono ?_
       intro e w6 hp6
       have HP6:=zh (zbq true HEX.out ⟨fun _ h=>h.2.2 (by rw[←HLT2.out];exact hla),fun _=>rfl⟩ HY1.out HY2.out HY3.out y4 HTJ.out HLJ.out (Turned.refl _ _) (by rw[if_pos (Or.inl (by rw[←HLT2.out];exact hla))];exact hp6))
       obtain rfl:=HP6.out.1
       clear hp6 HCA x0 x3 xl c0 c6 cz cl e0 e1 e2 e3 el
       go_wp2_with fail
       obtain ⟨bs',ok2,s2,l2,g1,g2,g3,g4,g5⟩:=HP6.out.2
       go_roundg (lt-(j+1))
       case measure=>omega
       case rel=>exact ⟨j+1,bs',ok2,s2,l2,rfl,by omega,by go_num,zh g1,zh g2,zh g3,zh g4,zh g5⟩
      ·have f9:(op==9)=false:=by simp[h9]
       have HCA:=zh (HMX.out _ _ _ _ B base cb bs nc nk sj fr true lj (sc++v) _ (deep+1) wr HRX.out HCJ.out HKJ.out HSJ.out hB1 hbr (fun _=>HY2.out) (fun _=>by simp only[List.length_append];exact HY3.out) y4 y5 (by omega) (by omega) HSX.out)
       clear HRX HKJ HIJ HMX
       go_wp2_with fail
       with_reducible refine HCA.out.mono ?_
       intro e w6 hp6
       have HP6:=zh (zbq true HEX.out ⟨fun _ h=>h.2.2 (by rw[←HLT2.out];exact hla),fun _=>rfl⟩ HY1.out HY2.out HY3.out y4 HTJ.out HLJ.out (Turned.refl _ _) (by rw[if_pos (Or.inl (by rw[←HLT2.out];exact hla))];exact hp6))
       obtain rfl:=HP6.out.1
       clear hp6 HCA x0 x3 xl c0 c6 cz cl e0 e1 e2 e3 el
       go_wp2_with fail
       obtain ⟨bs',ok2,s2,l2,g1,g2,g3,g4,g5⟩:=HP6.out.2
       go_roundg (lt-(j+1))
       case measure=>omega
       case rel=>exact ⟨j+1,bs',ok2,s2,l2,rfl,by omega,by go_num,zh g1,zh g2,zh g3,zh g4,zh g5⟩
     ·have f1:((j:Int)==(lt:Int)-1)=false:=by simp;omega
      by_cases h9:op=9
      ·by_cases hx19:x.op=19
       ·have f9:(op==9)=true:=by simp[h9]
        have H9:=zh h9
        clear h9
        have f19:(x.op==19)=true:=by simp[hx19]
        have H19:=zh hx19
        clear hx19
        obtain ⟨W1,hW1⟩:∃W1,wr.setCell ⟨cb,6,none⟩ (.bool true)=W1:=⟨_,rfl⟩
        have HWE:=zh hW1
        have HT1:=zh (show Turned (SR cb bs) wr W1 from by rw[←hW1];exact Turned.set _ _ _ (.inl rfl))
        have HC1:=zh (show RCk W1 base cb bs nc nk fr sj lj true from by rw[←hW1];exact HCJ.out.failed _)
        have HK1:=zh (show IntsM W1 (SR cb bs) (sc++v) (.slice o8 n8 c8) from HKJ.out.kept HT1.out (fun _ _ h=>h) (fun _ _ h=>h))
        have HR1:=zh (TrmR.kept (HT1.out.below HSJ.out (by omega)) _ _ HRX.out)
        have HX1:=zh (HT1.out.box HXK.out (fun h=>HNB.out h))
        have hb1:base≤W1.heap.size:=Nat.le_trans hbr HT1.out.size
        clear hW1
        have HCA:=zh (HMX.out _ _ _ _ B base cb bs nc nk sj fr true lj (sc++v) _ (deep+1) W1 HR1.out HC1.out HK1.out HSJ.out hB1 hb1 (fun _=>HY2.out) (fun _=>by simp only[List.length_append];exact HY3.out) y4 y5 (by omega) (by omega) HSX.out)
        clear HRX HKJ HIJ HMX
        go_upto_region 16 with fail
        rw[HWE.out]
        clear x0 x3 xl c0 c6 cz cl e0 e1 e2 e3 el
        have HP1:=zh (HPT.out.kept (HT1.out.below HSJ.out (by omega)))
        have x0:=HX1.out.cell 0 rfl
        have x3:=HX1.out.cell 3 rfl
        have xl:=HX1.out.lt
        have e0:=HP1.out.e0
        have e1:=HP1.out.e1
        have e2:=HP1.out.e2
        have e3:=HP1.out.e3
        have el:=HP1.out.size
        go_wp2_with fail
        with_reducible refine HCA.out.mono ?_
        intro e w6 hp6
        have HP6:=zh (zbq true HEX.out ⟨fun _ h=>h.2.1 H19.out,fun _=>rfl⟩ HY1.out HY2.out HY3.out y4 HTJ.out HLJ.out HT1.out (by rw[if_pos (Or.inr H9.out)];exact hp6))
        obtain rfl:=HP6.out.1
        clear hp6 HCA x0 x3 xl e0 e1 e2 e3 el
        go_wp2_with fail
        obtain ⟨bs',ok2,s2,l2,g1,g2,g3,g4,g5⟩:=HP6.out.2
        go_roundg (lt-(j+1))
        case measure=>omega
        case rel=>exact ⟨j+1,bs',ok2,s2,l2,rfl,by omega,by go_num,zh g1,zh g2,zh g3,zh g4,zh g5⟩
       ·have f9:(op==9)=true:=by simp[h9]
        have H9:=zh h9
        clear h9
        have f19:(x.op==19)=false:=by simp[hx19]
        obtain ⟨W1,hW1⟩:∃W1,wr.setCell ⟨cb,6,none⟩ (.bool false)=W1:=⟨_,rfl⟩
        have HWE:=zh hW1
        have HT1:=zh (show Turned (SR cb bs) wr W1 from by rw[←hW1];exact Turned.set _ _ _ (.inl rfl))
        have HC1:=zh (show RCk W1 base cb bs nc nk fr sj lj false from by rw[←hW1];exact HCJ.out.failed _)
        have HK1:=zh (show IntsM W1 (SR cb bs) (sc++v) (.slice o8 n8 c8) from HKJ.out.kept HT1.out (fun _ _ h=>h) (fun _ _ h=>h))
        have HR1:=zh (TrmR.kept (HT1.out.below HSJ.out (by omega)) _ _ HRX.out)
        have HX1:=zh (HT1.out.box HXK.out (fun h=>HNB.out h))
        have hb1:base≤W1.heap.size:=Nat.le_trans hbr HT1.out.size
        clear hW1
        have HCA:=zh (HMX.out _ _ _ _ B base cb bs nc nk sj fr false lj (sc++v) _ (deep+1) W1 HR1.out HC1.out HK1.out HSJ.out hB1 hb1 (fun _=>HY2.out) (fun _=>by simp only[List.length_append];exact HY3.out) y4 y5 (by omega) (by omega) HSX.out)
        clear HRX HKJ HIJ HMX
        go_upto_region 16 with fail
        rw[HWE.out]
        clear x0 x3 xl c0 c6 cz cl e0 e1 e2 e3 el
        have HP1:=zh (HPT.out.kept (HT1.out.below HSJ.out (by omega)))
        have x0:=HX1.out.cell 0 rfl
        have x3:=HX1.out.cell 3 rfl
        have xl:=HX1.out.lt
        have e0:=HP1.out.e0
        have e1:=HP1.out.e1
        have e2:=HP1.out.e2
        have e3:=HP1.out.e3
        have el:=HP1.out.size
        go_wp2_with fail
        with_reducible refine HCA.out.mono ?_
        intro e w6 hp6
        have HP6:=zh (zbq false HEX.out ⟨fun h=>(by cases h),fun h=>absurd ⟨H9.out,hx19,by rw[←HLT2.out];exact hla⟩ h⟩ HY1.out HY2.out HY3.out y4 HTJ.out HLJ.out HT1.out hp6)
        obtain rfl:=HP6.out.1
        clear hp6 HCA x0 x3 xl e0 e1 e2 e3 el
        go_wp2_with fail
        obtain ⟨bs',ok2,s2,l2,g1,g2,g3,g4,g5⟩:=HP6.out.2
        go_roundg (lt-(j+1))
        case measure=>omega
        case rel=>exact ⟨j+1,bs',ok2,s2,l2,rfl,by omega,by go_num,zh g1,zh g2,zh g3,zh g4,zh g5⟩
      ·have f9:(op==9)=false:=by simp[h9]
       have HCA:=zh (HMX.out _ _ _ _ B base cb bs nc nk sj fr true lj sc _ (deep+1) wr HRX.out HCJ.out HIJ.out HSJ.out hB1 hbr (fun _=>HY2.out) (fun _=>by have:=HY3.out;omega) y4 y5 (by omega) (by omega) HSX.out)
       clear HRX HKJ HIJ HMX
       go_wp2_with fail
       with_reducible refine HCA.out.mono ?_
       intro e w6 hp6
       have HP6:=zh (zbq true HEX.out ⟨fun _ h=>h9 h.1,fun _=>rfl⟩ HY1.out HY2.out HY3.out y4 HTJ.out HLJ.out (Turned.refl _ _) (by rw[show (if j+1=ts.length∨op=9 then sc++v else sc)=sc from if_neg (fun h=>h.elim (fun h=>hla (by rw[HLT2.out];exact h)) h9)];exact hp6))
       obtain rfl:=HP6.out.1
       clear hp6 HCA x0 x3 xl c0 c6 cz cl e0 e1 e2 e3 el
       go_wp2_with fail
       obtain ⟨bs',ok2,s2,l2,g1,g2,g3,g4,g5⟩:=HP6.out.2
       go_roundg (lt-(j+1))
       case measure=>omega
       case rel=>exact ⟨j+1,bs',ok2,s2,l2,rfl,by omega,by go_num,zh g1,zh g2,zh g3,zh g4,zh g5⟩
   ·obtain rfl:j=lt:=by omega
    have HRN:=zh (show R=some (sj,lj) from by
     rw[←(HYJ.out rfl).1,List.drop_eq_nil_of_le (by rw[←HLT2.out];exact Nat.le_refl _),Trm.rchkL])
    go_wp2_with fail
    first | go_end0 | (refine bodyPost_ret (results_none rfl _ _ _) rfl ?_) | fail
    exact ⟨rfl,bs,HTW.out,HLW.out,fun s h=>(by rw[HRN.out] at h;cases h;exact HCJ.out),fun h=>(by rw[HRN.out] at h;cases h)⟩
theorem zc6 (x:Trm):RTermC x:=by
 induction x using Trm.ind with
 | _ op n v ts ih=>
 cases hso:Trm.sortB op with
 | false=>exact zaq op n v ts ih (fun h=>by rw[hso] at h;cases h) (fun h=>by rw[hso] at h;cases h)
 | true=>
 have hop:op=0∨op=1∨op=3∨op=5∨op=6∨op=8∨op=9∨op=10∨op=11∨op=12∨op=13∨op=15∨op=16∨op=17∨op=18∨op=19∨op=20∨op=21∨op=22:=by simpa[Trm.sortB] using hso
 clear hso
 rcases hop with rfl | rfl | rfl | rfl | rfl | rfl | rfl | rfl | rfl | rfl | rfl | rfl | rfl | rfl | rfl | rfl | rfl | rfl | rfl
 ·exact zaq 0 n v ts ih (fun _ ov ot lv cv lt ct w h=>zg9 n ov ot lv cv lt ct w h) (fun _ cb nc nk size fr ok bsl ov ot lv cv lt ct l sl B w hc hs hB=>ziA cb nc nk size fr ok bsl n ov ot lv cv lt ct l sl B w hc hs hB)
 ·exact zaq 1 n v ts ih (fun _ ov ot lv cv lt ct w h=>zhs n ov ot lv cv lt ct w h) (fun _ cb nc nk size fr ok bsl ov ot lv cv lt ct l sl B w hc hs hB=>ziv cb nc nk size fr ok bsl n ov ot lv cv lt ct l sl B w hc hs hB)
 ·exact zaq 3 n v ts ih (fun _ ov ot lv cv lt ct w h=>zid n ov ot lv cv lt ct w h) (fun _ cb nc nk size fr ok bsl ov ot lv cv lt ct l sl B w hc hs hB=>zhv cb nc nk size fr ok bsl n ov ot lv cv lt ct l sl B w hc hs hB)
 ·exact zaq 5 n v ts ih (fun _ ov ot lv cv lt ct w h=>zhl n ov ot lv cv lt ct w h) (fun _ cb nc nk size fr ok bsl ov ot lv cv lt ct l sl B w hc hs hB=>zhB cb nc nk size fr ok bsl n ov ot lv cv lt ct l sl B w hc hs hB)
 ·exact zaq 6 n v ts ih (fun _ ov ot lv cv lt ct w h=>zhG n ov ot lv cv lt ct w h) (fun _ cb nc nk size fr ok bsl ov ot lv cv lt ct l sl B w hc hs hB=>zhR cb nc nk size fr ok bsl n ov ot lv cv lt ct l sl B w hc hs hB)
 ·exact zaq 8 n v ts ih (fun _ ov ot lv cv lt ct w h=>ziy n ov ot lv cv lt ct w h) (fun _ cb nc nk size fr ok bsl ov ot lv cv lt ct l sl B w hc hs hB=>zg2 cb nc nk size fr ok bsl n ov ot lv cv lt ct l sl B w hc hs hB)
 ·exact zaq 9 n v ts ih (fun _ ov ot lv cv lt ct w h=>zhY n ov ot lv cv lt ct w h) (fun _ cb nc nk size fr ok bsl ov ot lv cv lt ct l sl B w hc hs hB=>zhI cb nc nk size fr ok bsl n ov ot lv cv lt ct l sl B w hc hs hB)
 ·exact zaq 10 n v ts ih (fun _ ov ot lv cv lt ct w h=>zgG n ov ot lv cv lt ct w h) (fun _ cb nc nk size fr ok bsl ov ot lv cv lt ct l sl B w hc hs hB=>zgr cb nc nk size fr ok bsl n ov ot lv cv lt ct l sl B w hc hs hB)
 ·exact zaq 11 n v ts ih (fun _ ov ot lv cv lt ct w h=>zfX n ov ot lv cv lt ct w h) (fun _ cb nc nk size fr ok bsl ov ot lv cv lt ct l sl B w hc hs hB=>zgj cb nc nk size fr ok bsl n ov ot lv cv lt ct l sl B w hc hs hB)
 ·exact zaq 12 n v ts ih (fun _ ov ot lv cv lt ct w h=>zfU n ov ot lv cv lt ct w h) (fun _ cb nc nk size fr ok bsl ov ot lv cv lt ct l sl B w hc hs hB=>zga cb nc nk size fr ok bsl n ov ot lv cv lt ct l sl B w hc hs hB)
 ·exact zaq 13 n v ts ih (fun _ ov ot lv cv lt ct w h=>zgh n ov ot lv cv lt ct w h) (fun _ cb nc nk size fr ok bsl ov ot lv cv lt ct l sl B w hc hs hB=>zf2 cb nc nk size fr ok bsl n ov ot lv cv lt ct l sl B w hc hs hB)
 ·exact zaq 15 n v ts ih (fun _ ov ot lv cv lt ct w h=>zgA n ov ot lv cv lt ct w h) (fun _ cb nc nk size fr ok bsl ov ot lv cv lt ct l sl B w hc hs hB=>zgB cb nc nk size fr ok bsl n ov ot lv cv lt ct l sl B w hc hs hB)
 ·exact zaq 16 n v ts ih (fun _ ov ot lv cv lt ct w h=>zfI n ov ot lv cv lt ct w h) (fun _ cb nc nk size fr ok bsl ov ot lv cv lt ct l sl B w hc hs hB=>zgx cb nc nk size fr ok bsl n ov ot lv cv lt ct l sl B w hc hs hB)
 ·exact zaq 17 n v ts ih (fun _ ov ot lv cv lt ct w h=>zfF n ov ot lv cv lt ct w h) (fun _ cb nc nk size fr ok bsl ov ot lv cv lt ct l sl B w hc hs hB=>zgz cb nc nk size fr ok bsl n ov ot lv cv lt ct l sl B w hc hs hB)
 ·exact zaq 18 n v ts ih (fun _ ov ot lv cv lt ct w h=>zfP n ov ot lv cv lt ct w h) (fun _ cb nc nk size fr ok bsl ov ot lv cv lt ct l sl B w hc hs hB=>zgd cb nc nk size fr ok bsl n ov ot lv cv lt ct l sl B w hc hs hB)
 ·exact zaq 19 n v ts ih (fun _ ov ot lv cv lt ct w h=>zfT n ov ot lv cv lt ct w h) (fun _ cb nc nk size fr ok bsl ov ot lv cv lt ct l sl B w hc hs hB=>zgH cb nc nk size fr ok bsl n ov ot lv cv lt ct l sl B w hc hs hB)
 ·exact zaq 20 n v ts ih (fun _ ov ot lv cv lt ct w h=>zfR n ov ot lv cv lt ct w h) (fun _ cb nc nk size fr ok bsl ov ot lv cv lt ct l sl B w hc hs hB=>zgp cb nc nk size fr ok bsl n ov ot lv cv lt ct l sl B w hc hs hB)
 ·exact zaq 21 n v ts ih (fun _ ov ot lv cv lt ct w h=>zgs n ov ot lv cv lt ct w h) (fun _ cb nc nk size fr ok bsl ov ot lv cv lt ct l sl B w hc hs hB=>zgC cb nc nk size fr ok bsl n ov ot lv cv lt ct l sl B w hc hs hB)
 ·exact zaq 22 n v ts ih (fun _ ov ot lv cv lt ct w h=>zf7 n ov ot lv cv lt ct w h) (fun _ cb nc nk size fr ok bsl ov ot lv cv lt ct l sl B w hc hs hB=>zgJ cb nc nk size fr ok bsl n ov ot lv cv lt ct l sl B w hc hs hB)
end
end Go.Proofs.YtdcajmeeeoofgaaGreatDoor
