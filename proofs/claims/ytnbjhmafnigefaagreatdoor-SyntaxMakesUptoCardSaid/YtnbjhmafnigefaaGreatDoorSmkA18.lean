/- .. -/
import Derived.Defers
import Derived.Recover
import Derived.Laws.Pointers
import Derived.Deep.RegionLaw
import Derived.WalkLawsBesides
import Derived.Test.YtnbjhmafnigefaaGreatDoorSmkA17
open Go.Proofs.Tryz
set_option maxRecDepth 100000
set_option maxHeartbeats 16000000
namespace Go.Proofs.YtnbjhmafnigefaaGreatDoor
section
open Go Go.RowKit
theorem zdt (x:Dat) (v:Value) (B:Nat) (w:World) (hv:RepD w B x v) (hB:B≤w.heap.size) :
  Calls prog 25 #[v] w fun e w'=>e=.returned (.bool (!Dat.right x 0 || Dat.marked x))∧Below w.heap.size w w':=by
 obtain ⟨k,n,d,s,o,len,cap,rfl⟩:=zae hv
 obtain ⟨W0,hW0⟩:∃W0,w.alloc (.cells #[.int .i64 k,.int .i64 n,.int .i64 d,.string s,.slice o len cap] 26)=W0:=⟨_,rfl⟩
 have hb:Box5 W0 w.heap.size 26 (.int .i64 k) (.int .i64 n) (.int .i64 d) (.string s) (.slice o len cap):=by rw[←hW0];exact Box5.new w _ _ _ _ _ _
 have hbl:Below w.heap.size w W0:=by rw[←hW0];exact Below.one _ _
 have HBL:=zh hbl
 have hrt:=zbz x _ B W0 (hv.kept (hbl.mono hB)) (by have:=hbl.size;omega)
 have hmk:=fun W (hW:Below W0.heap.size W0 W)=>zhA x _ B W (hv.kept ((hbl.mono hB).trans (hW.mono (by have:=hbl.size;omega)))) (by have:=hbl.size;have:=hW.size;omega)
 have hkeep:∀W,Below W0.heap.size W0 W→Box5 W w.heap.size 26 (.int .i64 k) (.int .i64 n) (.int .i64 d) (.string s) (.slice o len cap):=fun W hW=>(hW.block _ hb.lt).trans hb
 have HKP:=zh hkeep
 obtain ⟨i0,i1,i2,i3,i4⟩:=hb.cells
 have il:=hb.lt
 have HRT:=zh hrt
 have HMK:=zh hmk
 clear hv hb hbl hrt hmk hkeep hB
 cases hr:Dat.right x 0 with
 | false=>
  rw[hr] at HRT
  clear hr HMK
  go_enter func25,ntmps25
  go_wp2_with (first | (go_at_call 26;refine HRT.out.mono ?_;rintro e' w1 ⟨rfl,hb1⟩))
  go_ret
  exact ⟨rfl,Below.next HBL.out hb1⟩
 | true=>
  rw[hr] at HRT
  clear hr
  simp only[Bool.not_true,Bool.false_or]
  generalize Dat.marked x=r at HMK ⊢
  go_enter func25,ntmps25
  go_wp2_with (first | (go_at_call 26;refine HRT.out.mono ?_;rintro e' w1 ⟨rfl,hb1⟩;have hk1:=HKP.out w1 hb1;obtain ⟨j0,j1,j2,j3,j4⟩:=hk1.cells;have jl:=hk1.lt;have HM1:=zh (HMK.out w1 hb1);have HB1:=zh hb1;clear hk1 hb1) | (go_at_call 27;refine HM1.out.mono ?_;rintro e' w2 ⟨rfl,hb2⟩))
  go_ret
  exact ⟨rfl,Below.next (Below.next HBL.out HB1.out) hb2⟩
theorem zcD (bo be:Nat) (c0 c1 c2 c3 c4:Value) (ei:Int) (w:World) (h0:BoxL w bo 26 [c0,c1,c2,c3,c4]) (h2:BoxL w be 27 [.int .i64 ei]) :
  CallsD prog 28 #[.pointer (some ⟨bo,0,none⟩),.pointer (some ⟨be,0,none⟩)] (.panicking badE) w fun e u' w'=>
   e=.returned (.tuple #[])∧u'=.panicking [{ v:=.iface 42 (.agg #[]),recovered:=true }]∧BoxL w' bo 26 [.int .i64 0,.int .i64 0,.int .i64 0,.string ⟨#[]⟩,.slice none 0 0]∧BoxL w' be 27 [.int .i64 3]∧Turned (fun c=>c=bo∨c=be) w w':=by
 refine callsD_of_wpS func28 rfl fun c₀ cs hu=>?_
 have c0':=h0.cell 0 rfl
 have c1':=h0.cell 1 rfl
 have c2':=h0.cell 2 rfl
 have c3':=h0.cell 3 rfl
 have c4':=h0.cell 4 rfl
 have e0:=h2.cell 0 rfl
 have z0:=h0.free 0
 have z1:=h0.free 1
 have z2:=h0.free 2
 have z3:=h0.free 3
 have z4:=h0.free 4
 have y0:=h2.free 0
 have l0:=h0.lt
 have l2:=h2.lt
 have n2:bo≠be:=fun e=>by
  subst e
  have:=Option.some.inj ((show w.heap[_]?=_ from h0).symm.trans h2)
  simp only[Obj.cells.injEq] at this
  exact absurd this.2.1 (by decide)
 apply wpS_seq
 apply wpS_region
 simp only[go_sem,ntmps28]
 simp[wpOpsS,go_sem,recoverD,hu,Exit.thenS]
 refine wpS_of_wp ?_
 simp only[Array.replicate_succ,Array.replicate_zero,List.push_toArray,List.nil_append,List.cons_append,List.setIfInBounds_toArray,List.set_cons_zero,List.set_cons_succ,List.append_toArray]
 obtain ⟨Q',hQ⟩:∃Q':Exit→Act→World→Prop,Q'=(fun e a' w'=>e=.normal∧a'.defers=[]∧BoxL w' bo 26 [.int .i64 0,.int .i64 0,.int .i64 0,.string ⟨#[]⟩,.slice none 0 0]∧BoxL w' be 27 [.int .i64 3]∧Turned (fun c=>c=bo∨c=be) w w'):=⟨_,rfl⟩
 refine Code.wp_mono (Q:=Q') ?_ ?_
 ·subst hQ
  rintro e a' w' ⟨rfl,hd,h3,h4,h5⟩
  exact ⟨hd,_,rfl,.tuple #[],by simp[results,results28],rfl,rfl,h3,h4,h5⟩
 have hta:∀w,(Instr.typeAssert (.iface 42 (.agg #[])) 20 42 true).run prog w=.ok (.tuple #[.agg #[],.bool true]) w:=fun _=>rfl
 go_wp2_with fail
 rw[hQ]
 refine ⟨rfl,rfl,?_,?_,?_⟩
 ·exact ((((((h0.set 0 (.int .i64 0)).set 1 (.int .i64 0)).set 2 (.int .i64 0)).set 3 (.string ⟨#[]⟩)).set 4 (.slice none 0 0)).other ⟨be,0,none⟩ (.int .i64 3) n2).alloc _
 ·exact ((((((h2.other ⟨bo,0,none⟩ (.int .i64 0) (Ne.symm n2)).other ⟨bo,1,none⟩ (.int .i64 0) (Ne.symm n2)).other ⟨bo,2,none⟩ (.int .i64 0) (Ne.symm n2)).other ⟨bo,3,none⟩ (.string ⟨#[]⟩) (Ne.symm n2)).other ⟨bo,4,none⟩ (.slice none 0 0) (Ne.symm n2)).set 0 (.int .i64 3)).alloc _
 ·exact ((((((Turned.set (S:=fun c=>c=bo∨c=be) _ _ _ (.inl rfl)).next (Turned.set _ _ _ (.inl rfl))).next (Turned.set _ _ _ (.inl rfl))).next (Turned.set _ _ _ (.inl rfl))).next (Turned.set _ _ _ (.inl rfl))).next (Turned.set _ _ _ (.inr rfl))).next (Turned.of_below (Below.one _ _))
theorem zfO (bo be:Nat) (w:World) :
  CallsD prog 28 #[.pointer (some ⟨bo,0,none⟩),.pointer (some ⟨be,0,none⟩)] .returning w fun e u' w'=>e=.returned (.tuple #[])∧u'=.returning∧w'=w:=by
 refine callsD_of_wpS func28 rfl fun c₀ cs hu=>?_
 apply wpS_seq
 apply wpS_region
 simp[wpOpsS,go_sem,recoverD,hu,Exit.thenS,ntmps28]
 refine wpS_of_wp ?_
 simp only[Array.replicate_succ,Array.replicate_zero,List.push_toArray,List.nil_append,List.cons_append,List.setIfInBounds_toArray,List.set_cons_zero,List.set_cons_succ,List.append_toArray]
 obtain ⟨Q',hQ⟩:∃Q':Exit→Act→World→Prop,Q'=(fun e a' w'=>e=.normal∧a'.defers=[]∧w'=w):=⟨_,rfl⟩
 refine Code.wp_mono (Q:=Q') ?_ ?_
 ·subst hQ
  rintro e a' w' ⟨rfl,hd,rfl⟩
  cases c₀
  simp_all [bodyPostS,results,results28]
 go_wp2_with fail
 rw[hQ]
 exact ⟨rfl,rfl,rfl⟩
end
section
open Go Go.RowKit
theorem zfK {C:Dat→Bool} {x:Dat} {h:Dat} {t:List Dat} {v:Value} {w:World} (hin:CIn x h (t) v w) (hh:h.kind=2) (hkey:Sy.keyword h.s=true) (hi0:Sy.isNm h ⟨#[113,117,111,116,101]⟩=false) (hi1:Sy.isNm h ⟨#[105,102]⟩=false) (hi2:Sy.isNm h ⟨#[98,101,103,105,110]⟩=false) (hi3:Sy.isNm h ⟨#[108,97,109,98,100,97]⟩=false) (hi4:Sy.isNm h ⟨#[115,101,116,33]⟩=false) (hi5:Sy.isNm h ⟨#[108,101,116,114,101,99]⟩=true) (hn:t.length≠2):COut false v w:=by
 obtain ⟨k,n,d,s,o,len,cap,W0,rfl,hW0,⟨i0,i1,i2,i3,i4⟩,il,hk2,HBL,HIT⟩:=zaN hin
 have HN:=zh hn
 have HKY:=zh hkey
 have HH:=zh hh
 unfold COut
 clear hin hh hkey hn
 go_enter func40,ntmps40
 go_wp2_with (first | (go_at_call 73;refine HIT.out.mono ?_;rintro e' w1 ⟨bb,ob,len1,cap1,kh,nh,dh,sh,oh,lh,ch,rfl,hkh,hsn,⟨e0,e1,e2,e3,e4⟩,hl0,hz,HL1,HR1,HEL,HB1,HBW,HIS⟩;have hkq:(kh != 2)=false:=(by rw[←hkh,HH.out];rfl);rw[hsn] at HKY;clear hkh hsn;have hn3:((len1:Int) != 3)=true:=bne_iff_ne.2 (by have:=HN.out;have:=HL1.out;rw[List.length_cons] at this;omega)) | (go_at_call 20;refine (zap sh true HKY.out _).mono ?_;rintro e' wN ⟨rfl,rfl⟩) | (go_at_call 74;(first | with_reducible refine (HIS.out _ _ _ hi0).mono ?_ | with_reducible refine (HIS.out _ _ _ hi1).mono ?_ | with_reducible refine (HIS.out _ _ _ hi2).mono ?_ | with_reducible refine (HIS.out _ _ _ hi3).mono ?_ | with_reducible refine (HIS.out _ _ _ hi4).mono ?_ | with_reducible refine (HIS.out _ _ _ hi5).mono ?_);rintro e' wN ⟨rfl,hbN⟩;have HBW:=zh (Below.next HBW.out hbN);obtain ⟨e0,e1,e2,e3,e4⟩:=HEL.out _ HBW.out;clear hbN) | fail)
 all_goals (go_ret;exact ⟨rfl,Below.next HB1.out HBW.out⟩)
theorem zfw {C:Dat→Bool} {x:Dat} {h:Dat} {f b:Dat} {v:Value} {w:World} (hin:CIn x h ([f,b]) v w) (hh:h.kind=2) (hkey:Sy.keyword h.s=true) (hi0:Sy.isNm h ⟨#[113,117,111,116,101]⟩=false) (hi1:Sy.isNm h ⟨#[105,102]⟩=false) (hi2:Sy.isNm h ⟨#[98,101,103,105,110]⟩=false) (hi3:Sy.isNm h ⟨#[108,97,109,98,100,97]⟩=false) (hi4:Sy.isNm h ⟨#[115,101,116,33]⟩=false) (hi5:Sy.isNm h ⟨#[108,101,116,114,101,99]⟩=true) (hf:Dat.shaped f=true) (hfa:Dat.all f≤100000) (hfo:Sy.binds f=none):COut false v w:=by
 obtain ⟨k,n,d,s,o,len,cap,W0,rfl,hW0,⟨i0,i1,i2,i3,i4⟩,il,hk2,HBL,HIT⟩:=zaN hin
 have HFO:=zh (zeU hfo hf hfa)
 have HKY:=zh hkey
 have HH:=zh hh
 unfold COut
 clear hin hh hkey hf hfa hfo
 go_enter func40,ntmps40
 go_wp2_with (first | (go_at_call 73;refine HIT.out.mono ?_;rintro e' w1 ⟨bb,ob,len1,cap1,kh,nh,dh,sh,oh,lh,ch,rfl,hkh,hsn,⟨e0,e1,e2,e3,e4⟩,hl0,hz,HL1,HR1,HEL,HB1,HBW,HIS⟩;have hkq:(kh != 2)=false:=(by rw[←hkh,HH.out];rfl);rw[hsn] at HKY;clear hkh hsn;have hn3:((len1:Int) != 3)=false:=(by rw[HL1.out];rfl);have hl2:1<len1:=(by rw[HL1.out];exact Nat.succ_lt_succ (Nat.succ_pos _));have hl3:2<len1:=(by rw[HL1.out];exact Nat.lt_succ_self _);obtain ⟨kf,nf,df,sf,of,lf,cf,HE2⟩:=zbb HR1.out (j:=1) rfl (ob+5) (ob+6) (ob+7) (ob+8) (ob+9) rfl rfl rfl rfl rfl;obtain ⟨kb,nb,db,sb,ob',lb,cb,HE3⟩:=zbb HR1.out (j:=2) rfl (ob+10) (ob+11) (ob+12) (ob+13) (ob+14) rfl rfl rfl rfl rfl) | (go_at_call 20;refine (zap sh true HKY.out _).mono ?_;rintro e' wN ⟨rfl,rfl⟩) | (go_at_call 74;(first | with_reducible refine (HIS.out _ _ _ hi0).mono ?_ | with_reducible refine (HIS.out _ _ _ hi1).mono ?_ | with_reducible refine (HIS.out _ _ _ hi2).mono ?_ | with_reducible refine (HIS.out _ _ _ hi3).mono ?_ | with_reducible refine (HIS.out _ _ _ hi4).mono ?_ | with_reducible refine (HIS.out _ _ _ hi5).mono ?_);rintro e' wN ⟨rfl,hbN⟩;have HBW:=zh (Below.next HBW.out hbN);obtain ⟨e0,e1,e2,e3,e4⟩:=HEL.out _ HBW.out;clear hbN;obtain ⟨f0,f1,f2,f3,f4,fr⟩:=HE2.out _ HBW.out;obtain ⟨g0,g1,g2,g3,g4,gr⟩:=HE3.out _ HBW.out;have HGR:=zh gr;clear gr) | (go_at_call 76;refine (HFO.out _ _ fr).mono ?_;rintro e' wB ⟨ln,lv,vn,oB,lenB,capB,rfl,hg1,hg2,hbB,hlB⟩;obtain ⟨HK,HG⟩:=zbx hg1 hg2 hbB HGR.out;have HG1:=zh hg1;have HBB:=zh hbB;have HLB:=zh hlB;obtain ⟨g0,g1,g2,g3,g4, -⟩:=HE3.out _ (Below.next HBW.out hbB);clear hg1 hg2 hbB hlB fr) | (at_builtin;go_loud (refine zam rfl fun K hK=>zaC (S:=SR (fun _=>False) vn) (.tmp 120) (.tmp 124) rfl wN.heap.size (.slice oB lenB capB) (.slice (some ⟨wB.heap.size,0,none⟩) 1 1) lv [b] rfl HG rfl HK (by have:=HLB.out;simp only[List.length_cons,List.length_nil];omega) fun o7 len7 cap7 w7 h7 h8 h9 h10=>hK _ _ ?_)) | fail)
 go_ret
 have hb7:=Below.next HB1.out (Below.next HBW.out ((HBB.out.trans ((Below.one wB _).mono HBB.out.size)).trans h8.out))
 exact ⟨rfl,hb7⟩
theorem zfz {C:Dat→Bool} {x:Dat} {h:Dat} {f b:Dat} {ns vs:List Dat} {v:Value} {w:World} (hin:CIn x h ([f,b]) v w) (hh:h.kind=2) (hkey:Sy.keyword h.s=true) (hi0:Sy.isNm h ⟨#[113,117,111,116,101]⟩=false) (hi1:Sy.isNm h ⟨#[105,102]⟩=false) (hi2:Sy.isNm h ⟨#[98,101,103,105,110]⟩=false) (hi3:Sy.isNm h ⟨#[108,97,109,98,100,97]⟩=false) (hi4:Sy.isNm h ⟨#[115,101,116,33]⟩=false) (hi5:Sy.isNm h ⟨#[108,101,116,114,101,99]⟩=true) (hf:Dat.shaped f=true) (hfa:Dat.all f≤100000) (hfo:Sy.binds f=some (ns,vs)) (hdi:Sy.distinct ns=false) (hnl:ns.length≤1000000):COut false v w:=by
 obtain ⟨k,n,d,s,o,len,cap,W0,rfl,hW0,⟨i0,i1,i2,i3,i4⟩,il,hk2,HBL,HIT⟩:=zaN hin
 have HFO:=zh (zcv hfo hf hfa)
 have HDI:=zh hdi
 have HNL:=zh hnl
 have HKY:=zh hkey
 have HH:=zh hh
 unfold COut
 clear hin hh hkey hf hfa hfo hdi hnl
 go_enter func40,ntmps40
 go_wp2_with (first | (go_at_call 73;refine HIT.out.mono ?_;rintro e' w1 ⟨bb,ob,len1,cap1,kh,nh,dh,sh,oh,lh,ch,rfl,hkh,hsn,⟨e0,e1,e2,e3,e4⟩,hl0,hz,HL1,HR1,HEL,HB1,HBW,HIS⟩;have hkq:(kh != 2)=false:=(by rw[←hkh,HH.out];rfl);rw[hsn] at HKY;clear hkh hsn;have hn3:((len1:Int) != 3)=false:=(by rw[HL1.out];rfl);have hl2:1<len1:=(by rw[HL1.out];exact Nat.succ_lt_succ (Nat.succ_pos _));have hl3:2<len1:=(by rw[HL1.out];exact Nat.lt_succ_self _);obtain ⟨kf,nf,df,sf,of,lf,cf,HE2⟩:=zbb HR1.out (j:=1) rfl (ob+5) (ob+6) (ob+7) (ob+8) (ob+9) rfl rfl rfl rfl rfl;obtain ⟨kb,nb,db,sb,ob',lb,cb,HE3⟩:=zbb HR1.out (j:=2) rfl (ob+10) (ob+11) (ob+12) (ob+13) (ob+14) rfl rfl rfl rfl rfl) | (go_at_call 20;refine (zap sh true HKY.out _).mono ?_;rintro e' wN ⟨rfl,rfl⟩) | (go_at_call 74;(first | with_reducible refine (HIS.out _ _ _ hi0).mono ?_ | with_reducible refine (HIS.out _ _ _ hi1).mono ?_ | with_reducible refine (HIS.out _ _ _ hi2).mono ?_ | with_reducible refine (HIS.out _ _ _ hi3).mono ?_ | with_reducible refine (HIS.out _ _ _ hi4).mono ?_ | with_reducible refine (HIS.out _ _ _ hi5).mono ?_);rintro e' wN ⟨rfl,hbN⟩;have HBW:=zh (Below.next HBW.out hbN);obtain ⟨e0,e1,e2,e3,e4⟩:=HEL.out _ HBW.out;clear hbN;obtain ⟨f0,f1,f2,f3,f4,fr⟩:=HE2.out _ HBW.out;obtain ⟨g0,g1,g2,g3,g4,gr⟩:=HE3.out _ HBW.out;have HGR:=zh gr;clear gr) | (go_at_call 76;refine (HFO.out _ _ fr).mono ?_;rintro e' wB ⟨vn,oB,lenB,capB,rfl,hg1,hg2,hbB,hlB⟩;obtain ⟨HK,HG⟩:=zbx hg1 hg2 hbB HGR.out;have HG1:=zh hg1;have HBB:=zh hbB;have HLB:=zh hlB;obtain ⟨g0,g1,g2,g3,g4, -⟩:=HE3.out _ (Below.next HBW.out hbB);clear hg1 hg2 hbB hlB fr) | (at_builtin;go_loud (refine zam rfl fun K hK=>zaC (S:=SR (fun _=>False) vn) (.tmp 120) (.tmp 124) rfl wN.heap.size (.slice oB lenB capB) (.slice (some ⟨wB.heap.size,0,none⟩) 1 1) vs [b] rfl HG rfl HK (by have:=HLB.out;simp only[List.length_cons,List.length_nil];omega) fun o7 len7 cap7 w7 h7 h8 h9 h10=>hK _ _ ?_)) | (go_at_call 49;refine (zaL ns vn _ _ ((HG1.out.below (Below.one _ _)).turned h9.out (fun b _ h=>.inr h)).rep.unhide (Nat.le_refl _) HNL.out).mono ?_;rw[HDI.out];rintro e' w8 ⟨rfl,hb8⟩) | fail)
 go_ret
 have hb7:=Below.next HB1.out (Below.next HBW.out ((HBB.out.trans ((Below.one wB _).mono HBB.out.size)).trans h8.out))
 exact ⟨rfl,Below.next hb7 hb8⟩
theorem zfc {C:Dat→Bool} {x:Dat} {h:Dat} {f b:Dat} {ns vs:List Dat} {v:Value} {w:World} (hin:CIn x h ([f,b]) v w) (hh:h.kind=2) (hkey:Sy.keyword h.s=true) (hi0:Sy.isNm h ⟨#[113,117,111,116,101]⟩=false) (hi1:Sy.isNm h ⟨#[105,102]⟩=false) (hi2:Sy.isNm h ⟨#[98,101,103,105,110]⟩=false) (hi3:Sy.isNm h ⟨#[108,97,109,98,100,97]⟩=false) (hi4:Sy.isNm h ⟨#[115,101,116,33]⟩=false) (hi5:Sy.isNm h ⟨#[108,101,116,114,101,99]⟩=true) (hC:∀c∈vs++[b],CoreAt C c) (hf:Dat.shaped f=true) (hfa:Dat.all f≤100000) (hfo:Sy.binds f=some (ns,vs)) (hdi:Sy.distinct ns=true) (hnl:ns.length≤1000000):COut ((vs++[b]).all C) v w:=by
 obtain ⟨k,n,d,s,o,len,cap,W0,rfl,hW0,⟨i0,i1,i2,i3,i4⟩,il,hk2,HBL,HIT⟩:=zaN hin
 obtain ⟨r,hr⟩:∃r,(vs++[b]).all C=r:=⟨_,rfl⟩
 have HC:=zh (zaP hC hr)
 rw[hr]
 have HFO:=zh (zcv hfo hf hfa)
 have HDI:=zh hdi
 have HNL:=zh hnl
 have HKY:=zh hkey
 have HH:=zh hh
 unfold COut
 clear hin hh hkey hC hr hf hfa hfo hdi hnl
 go_enter func40,ntmps40
 go_wp2_with (first | (go_at_call 73;refine HIT.out.mono ?_;rintro e' w1 ⟨bb,ob,len1,cap1,kh,nh,dh,sh,oh,lh,ch,rfl,hkh,hsn,⟨e0,e1,e2,e3,e4⟩,hl0,hz,HL1,HR1,HEL,HB1,HBW,HIS⟩;have hkq:(kh != 2)=false:=(by rw[←hkh,HH.out];rfl);rw[hsn] at HKY;clear hkh hsn;have hn3:((len1:Int) != 3)=false:=(by rw[HL1.out];rfl);have hl2:1<len1:=(by rw[HL1.out];exact Nat.succ_lt_succ (Nat.succ_pos _));have hl3:2<len1:=(by rw[HL1.out];exact Nat.lt_succ_self _);obtain ⟨kf,nf,df,sf,of,lf,cf,HE2⟩:=zbb HR1.out (j:=1) rfl (ob+5) (ob+6) (ob+7) (ob+8) (ob+9) rfl rfl rfl rfl rfl;obtain ⟨kb,nb,db,sb,ob',lb,cb,HE3⟩:=zbb HR1.out (j:=2) rfl (ob+10) (ob+11) (ob+12) (ob+13) (ob+14) rfl rfl rfl rfl rfl) | (go_at_call 20;refine (zap sh true HKY.out _).mono ?_;rintro e' wN ⟨rfl,rfl⟩) | (go_at_call 74;(first | with_reducible refine (HIS.out _ _ _ hi0).mono ?_ | with_reducible refine (HIS.out _ _ _ hi1).mono ?_ | with_reducible refine (HIS.out _ _ _ hi2).mono ?_ | with_reducible refine (HIS.out _ _ _ hi3).mono ?_ | with_reducible refine (HIS.out _ _ _ hi4).mono ?_ | with_reducible refine (HIS.out _ _ _ hi5).mono ?_);rintro e' wN ⟨rfl,hbN⟩;have HBW:=zh (Below.next HBW.out hbN);obtain ⟨e0,e1,e2,e3,e4⟩:=HEL.out _ HBW.out;clear hbN;obtain ⟨f0,f1,f2,f3,f4,fr⟩:=HE2.out _ HBW.out;obtain ⟨g0,g1,g2,g3,g4,gr⟩:=HE3.out _ HBW.out;have HGR:=zh gr;clear gr) | (go_at_call 76;refine (HFO.out _ _ fr).mono ?_;rintro e' wB ⟨vn,oB,lenB,capB,rfl,hg1,hg2,hbB,hlB⟩;obtain ⟨HK,HG⟩:=zbx hg1 hg2 hbB HGR.out;have HG1:=zh hg1;have HBB:=zh hbB;have HLB:=zh hlB;obtain ⟨g0,g1,g2,g3,g4, -⟩:=HE3.out _ (Below.next HBW.out hbB);clear hg1 hg2 hbB hlB fr) | (at_builtin;go_loud (refine zam rfl fun K hK=>zaC (S:=SR (fun _=>False) vn) (.tmp 120) (.tmp 124) rfl wN.heap.size (.slice oB lenB capB) (.slice (some ⟨wB.heap.size,0,none⟩) 1 1) vs [b] rfl HG rfl HK (by have:=HLB.out;simp only[List.length_cons,List.length_nil];omega) fun o7 len7 cap7 w7 h7 h8 h9 h10=>hK _ _ ?_)) | (go_at_call 49;refine (zaL ns vn _ _ ((HG1.out.below (Below.one _ _)).turned h9.out (fun b _ h=>.inr h)).rep.unhide (Nat.le_refl _) HNL.out).mono ?_;rw[HDI.out];rintro e' w8 ⟨rfl,hb8⟩) | (go_at_call 24;refine (HC.out _ _ ((h7.out.rep.unhide.kept hb8).wider hb8.size)).mono ?_;rintro e' w9 ⟨rfl,hb9⟩) | fail)
 go_ret
 have hb7:=Below.next HB1.out (Below.next HBW.out ((HBB.out.trans ((Below.one wB _).mono HBB.out.size)).trans h8.out))
 exact ⟨rfl,Below.next (Below.next hb7 hb8) hb9⟩
theorem zeH {C:Dat→Bool} {x:Dat} {h:Dat} {t:List Dat} {v:Value} {w:World} (hin:CIn x h (t) v w) (hh:h.kind=2) (hkey:Sy.keyword h.s=true) (hi0:Sy.isNm h ⟨#[113,117,111,116,101]⟩=false) (hi1:Sy.isNm h ⟨#[105,102]⟩=false) (hi2:Sy.isNm h ⟨#[98,101,103,105,110]⟩=false) (hi3:Sy.isNm h ⟨#[108,97,109,98,100,97]⟩=false) (hi4:Sy.isNm h ⟨#[115,101,116,33]⟩=false) (hi5:Sy.isNm h ⟨#[108,101,116,114,101,99]⟩=false) (hi6:Sy.isNm h ⟨#[108,101,116,114,101,99,42]⟩=true) (hn:t.length≠2):COut false v w:=by
 obtain ⟨k,n,d,s,o,len,cap,W0,rfl,hW0,⟨i0,i1,i2,i3,i4⟩,il,hk2,HBL,HIT⟩:=zaN hin
 have HN:=zh hn
 have HKY:=zh hkey
 have HH:=zh hh
 unfold COut
 clear hin hh hkey hn
 go_enter func40,ntmps40
 go_wp2_with (first | (go_at_call 73;refine HIT.out.mono ?_;rintro e' w1 ⟨bb,ob,len1,cap1,kh,nh,dh,sh,oh,lh,ch,rfl,hkh,hsn,⟨e0,e1,e2,e3,e4⟩,hl0,hz,HL1,HR1,HEL,HB1,HBW,HIS⟩;have hkq:(kh != 2)=false:=(by rw[←hkh,HH.out];rfl);rw[hsn] at HKY;clear hkh hsn;have hn3:((len1:Int) != 3)=true:=bne_iff_ne.2 (by have:=HN.out;have:=HL1.out;rw[List.length_cons] at this;omega)) | (go_at_call 20;refine (zap sh true HKY.out _).mono ?_;rintro e' wN ⟨rfl,rfl⟩) | (go_at_call 74;(first | with_reducible refine (HIS.out _ _ _ hi0).mono ?_ | with_reducible refine (HIS.out _ _ _ hi1).mono ?_ | with_reducible refine (HIS.out _ _ _ hi2).mono ?_ | with_reducible refine (HIS.out _ _ _ hi3).mono ?_ | with_reducible refine (HIS.out _ _ _ hi4).mono ?_ | with_reducible refine (HIS.out _ _ _ hi5).mono ?_ | with_reducible refine (HIS.out _ _ _ hi6).mono ?_);rintro e' wN ⟨rfl,hbN⟩;have HBW:=zh (Below.next HBW.out hbN);obtain ⟨e0,e1,e2,e3,e4⟩:=HEL.out _ HBW.out;clear hbN) | fail)
 all_goals (go_ret;exact ⟨rfl,Below.next HB1.out HBW.out⟩)
theorem zeJ {C:Dat→Bool} {x:Dat} {h:Dat} {f b:Dat} {v:Value} {w:World} (hin:CIn x h ([f,b]) v w) (hh:h.kind=2) (hkey:Sy.keyword h.s=true) (hi0:Sy.isNm h ⟨#[113,117,111,116,101]⟩=false) (hi1:Sy.isNm h ⟨#[105,102]⟩=false) (hi2:Sy.isNm h ⟨#[98,101,103,105,110]⟩=false) (hi3:Sy.isNm h ⟨#[108,97,109,98,100,97]⟩=false) (hi4:Sy.isNm h ⟨#[115,101,116,33]⟩=false) (hi5:Sy.isNm h ⟨#[108,101,116,114,101,99]⟩=false) (hi6:Sy.isNm h ⟨#[108,101,116,114,101,99,42]⟩=true) (hf:Dat.shaped f=true) (hfa:Dat.all f≤100000) (hfo:Sy.binds f=none):COut false v w:=by
 obtain ⟨k,n,d,s,o,len,cap,W0,rfl,hW0,⟨i0,i1,i2,i3,i4⟩,il,hk2,HBL,HIT⟩:=zaN hin
 have HFO:=zh (zeU hfo hf hfa)
 have HKY:=zh hkey
 have HH:=zh hh
 unfold COut
 clear hin hh hkey hf hfa hfo
 go_enter func40,ntmps40
 go_wp2_with (first | (go_at_call 73;refine HIT.out.mono ?_;rintro e' w1 ⟨bb,ob,len1,cap1,kh,nh,dh,sh,oh,lh,ch,rfl,hkh,hsn,⟨e0,e1,e2,e3,e4⟩,hl0,hz,HL1,HR1,HEL,HB1,HBW,HIS⟩;have hkq:(kh != 2)=false:=(by rw[←hkh,HH.out];rfl);rw[hsn] at HKY;clear hkh hsn;have hn3:((len1:Int) != 3)=false:=(by rw[HL1.out];rfl);have hl2:1<len1:=(by rw[HL1.out];exact Nat.succ_lt_succ (Nat.succ_pos _));have hl3:2<len1:=(by rw[HL1.out];exact Nat.lt_succ_self _);obtain ⟨kf,nf,df,sf,of,lf,cf,HE2⟩:=zbb HR1.out (j:=1) rfl (ob+5) (ob+6) (ob+7) (ob+8) (ob+9) rfl rfl rfl rfl rfl;obtain ⟨kb,nb,db,sb,ob',lb,cb,HE3⟩:=zbb HR1.out (j:=2) rfl (ob+10) (ob+11) (ob+12) (ob+13) (ob+14) rfl rfl rfl rfl rfl) | (go_at_call 20;refine (zap sh true HKY.out _).mono ?_;rintro e' wN ⟨rfl,rfl⟩) | (go_at_call 74;(first | with_reducible refine (HIS.out _ _ _ hi0).mono ?_ | with_reducible refine (HIS.out _ _ _ hi1).mono ?_ | with_reducible refine (HIS.out _ _ _ hi2).mono ?_ | with_reducible refine (HIS.out _ _ _ hi3).mono ?_ | with_reducible refine (HIS.out _ _ _ hi4).mono ?_ | with_reducible refine (HIS.out _ _ _ hi5).mono ?_ | with_reducible refine (HIS.out _ _ _ hi6).mono ?_);rintro e' wN ⟨rfl,hbN⟩;have HBW:=zh (Below.next HBW.out hbN);obtain ⟨e0,e1,e2,e3,e4⟩:=HEL.out _ HBW.out;clear hbN;obtain ⟨f0,f1,f2,f3,f4,fr⟩:=HE2.out _ HBW.out;obtain ⟨g0,g1,g2,g3,g4,gr⟩:=HE3.out _ HBW.out;have HGR:=zh gr;clear gr) | (go_at_call 76;refine (HFO.out _ _ fr).mono ?_;rintro e' wB ⟨ln,lv,vn,oB,lenB,capB,rfl,hg1,hg2,hbB,hlB⟩;obtain ⟨HK,HG⟩:=zbx hg1 hg2 hbB HGR.out;have HG1:=zh hg1;have HBB:=zh hbB;have HLB:=zh hlB;obtain ⟨g0,g1,g2,g3,g4, -⟩:=HE3.out _ (Below.next HBW.out hbB);clear hg1 hg2 hbB hlB fr) | (at_builtin;go_loud (refine zam rfl fun K hK=>zaC (S:=SR (fun _=>False) vn) (.tmp 120) (.tmp 124) rfl wN.heap.size (.slice oB lenB capB) (.slice (some ⟨wB.heap.size,0,none⟩) 1 1) lv [b] rfl HG rfl HK (by have:=HLB.out;simp only[List.length_cons,List.length_nil];omega) fun o7 len7 cap7 w7 h7 h8 h9 h10=>hK _ _ ?_)) | fail)
 go_ret
 have hb7:=Below.next HB1.out (Below.next HBW.out ((HBB.out.trans ((Below.one wB _).mono HBB.out.size)).trans h8.out))
 exact ⟨rfl,hb7⟩
theorem zeG {C:Dat→Bool} {x:Dat} {h:Dat} {f b:Dat} {ns vs:List Dat} {v:Value} {w:World} (hin:CIn x h ([f,b]) v w) (hh:h.kind=2) (hkey:Sy.keyword h.s=true) (hi0:Sy.isNm h ⟨#[113,117,111,116,101]⟩=false) (hi1:Sy.isNm h ⟨#[105,102]⟩=false) (hi2:Sy.isNm h ⟨#[98,101,103,105,110]⟩=false) (hi3:Sy.isNm h ⟨#[108,97,109,98,100,97]⟩=false) (hi4:Sy.isNm h ⟨#[115,101,116,33]⟩=false) (hi5:Sy.isNm h ⟨#[108,101,116,114,101,99]⟩=false) (hi6:Sy.isNm h ⟨#[108,101,116,114,101,99,42]⟩=true) (hf:Dat.shaped f=true) (hfa:Dat.all f≤100000) (hfo:Sy.binds f=some (ns,vs)) (hdi:Sy.distinct ns=false) (hnl:ns.length≤1000000):COut false v w:=by
 obtain ⟨k,n,d,s,o,len,cap,W0,rfl,hW0,⟨i0,i1,i2,i3,i4⟩,il,hk2,HBL,HIT⟩:=zaN hin
 have HFO:=zh (zcv hfo hf hfa)
 have HDI:=zh hdi
 have HNL:=zh hnl
 have HKY:=zh hkey
 have HH:=zh hh
 unfold COut
 clear hin hh hkey hf hfa hfo hdi hnl
 go_enter func40,ntmps40
 go_wp2_with (first | (go_at_call 73;refine HIT.out.mono ?_;rintro e' w1 ⟨bb,ob,len1,cap1,kh,nh,dh,sh,oh,lh,ch,rfl,hkh,hsn,⟨e0,e1,e2,e3,e4⟩,hl0,hz,HL1,HR1,HEL,HB1,HBW,HIS⟩;have hkq:(kh != 2)=false:=(by rw[←hkh,HH.out];rfl);rw[hsn] at HKY;clear hkh hsn;have hn3:((len1:Int) != 3)=false:=(by rw[HL1.out];rfl);have hl2:1<len1:=(by rw[HL1.out];exact Nat.succ_lt_succ (Nat.succ_pos _));have hl3:2<len1:=(by rw[HL1.out];exact Nat.lt_succ_self _);obtain ⟨kf,nf,df,sf,of,lf,cf,HE2⟩:=zbb HR1.out (j:=1) rfl (ob+5) (ob+6) (ob+7) (ob+8) (ob+9) rfl rfl rfl rfl rfl;obtain ⟨kb,nb,db,sb,ob',lb,cb,HE3⟩:=zbb HR1.out (j:=2) rfl (ob+10) (ob+11) (ob+12) (ob+13) (ob+14) rfl rfl rfl rfl rfl) | (go_at_call 20;refine (zap sh true HKY.out _).mono ?_;rintro e' wN ⟨rfl,rfl⟩) | (go_at_call 74;(first | with_reducible refine (HIS.out _ _ _ hi0).mono ?_ | with_reducible refine (HIS.out _ _ _ hi1).mono ?_ | with_reducible refine (HIS.out _ _ _ hi2).mono ?_ | with_reducible refine (HIS.out _ _ _ hi3).mono ?_ | with_reducible refine (HIS.out _ _ _ hi4).mono ?_ | with_reducible refine (HIS.out _ _ _ hi5).mono ?_ | with_reducible refine (HIS.out _ _ _ hi6).mono ?_);rintro e' wN ⟨rfl,hbN⟩;have HBW:=zh (Below.next HBW.out hbN);obtain ⟨e0,e1,e2,e3,e4⟩:=HEL.out _ HBW.out;clear hbN;obtain ⟨f0,f1,f2,f3,f4,fr⟩:=HE2.out _ HBW.out;obtain ⟨g0,g1,g2,g3,g4,gr⟩:=HE3.out _ HBW.out;have HGR:=zh gr;clear gr) | (go_at_call 76;refine (HFO.out _ _ fr).mono ?_;rintro e' wB ⟨vn,oB,lenB,capB,rfl,hg1,hg2,hbB,hlB⟩;obtain ⟨HK,HG⟩:=zbx hg1 hg2 hbB HGR.out;have HG1:=zh hg1;have HBB:=zh hbB;have HLB:=zh hlB;obtain ⟨g0,g1,g2,g3,g4, -⟩:=HE3.out _ (Below.next HBW.out hbB);clear hg1 hg2 hbB hlB fr) | (at_builtin;go_loud (refine zam rfl fun K hK=>zaC (S:=SR (fun _=>False) vn) (.tmp 120) (.tmp 124) rfl wN.heap.size (.slice oB lenB capB) (.slice (some ⟨wB.heap.size,0,none⟩) 1 1) vs [b] rfl HG rfl HK (by have:=HLB.out;simp only[List.length_cons,List.length_nil];omega) fun o7 len7 cap7 w7 h7 h8 h9 h10=>hK _ _ ?_)) | (go_at_call 49;refine (zaL ns vn _ _ ((HG1.out.below (Below.one _ _)).turned h9.out (fun b _ h=>.inr h)).rep.unhide (Nat.le_refl _) HNL.out).mono ?_;rw[HDI.out];rintro e' w8 ⟨rfl,hb8⟩) | fail)
 go_ret
 have hb7:=Below.next HB1.out (Below.next HBW.out ((HBB.out.trans ((Below.one wB _).mono HBB.out.size)).trans h8.out))
 exact ⟨rfl,Below.next hb7 hb8⟩
theorem zeB {C:Dat→Bool} {x:Dat} {h:Dat} {f b:Dat} {ns vs:List Dat} {v:Value} {w:World} (hin:CIn x h ([f,b]) v w) (hh:h.kind=2) (hkey:Sy.keyword h.s=true) (hi0:Sy.isNm h ⟨#[113,117,111,116,101]⟩=false) (hi1:Sy.isNm h ⟨#[105,102]⟩=false) (hi2:Sy.isNm h ⟨#[98,101,103,105,110]⟩=false) (hi3:Sy.isNm h ⟨#[108,97,109,98,100,97]⟩=false) (hi4:Sy.isNm h ⟨#[115,101,116,33]⟩=false) (hi5:Sy.isNm h ⟨#[108,101,116,114,101,99]⟩=false) (hi6:Sy.isNm h ⟨#[108,101,116,114,101,99,42]⟩=true) (hC:∀c∈vs++[b],CoreAt C c) (hf:Dat.shaped f=true) (hfa:Dat.all f≤100000) (hfo:Sy.binds f=some (ns,vs)) (hdi:Sy.distinct ns=true) (hnl:ns.length≤1000000):COut ((vs++[b]).all C) v w:=by
 obtain ⟨k,n,d,s,o,len,cap,W0,rfl,hW0,⟨i0,i1,i2,i3,i4⟩,il,hk2,HBL,HIT⟩:=zaN hin
 obtain ⟨r,hr⟩:∃r,(vs++[b]).all C=r:=⟨_,rfl⟩
 have HC:=zh (zaP hC hr)
 rw[hr]
 have HFO:=zh (zcv hfo hf hfa)
 have HDI:=zh hdi
 have HNL:=zh hnl
 have HKY:=zh hkey
 have HH:=zh hh
 unfold COut
 clear hin hh hkey hC hr hf hfa hfo hdi hnl
 go_enter func40,ntmps40
 go_wp2_with (first | (go_at_call 73;refine HIT.out.mono ?_;rintro e' w1 ⟨bb,ob,len1,cap1,kh,nh,dh,sh,oh,lh,ch,rfl,hkh,hsn,⟨e0,e1,e2,e3,e4⟩,hl0,hz,HL1,HR1,HEL,HB1,HBW,HIS⟩;have hkq:(kh != 2)=false:=(by rw[←hkh,HH.out];rfl);rw[hsn] at HKY;clear hkh hsn;have hn3:((len1:Int) != 3)=false:=(by rw[HL1.out];rfl);have hl2:1<len1:=(by rw[HL1.out];exact Nat.succ_lt_succ (Nat.succ_pos _));have hl3:2<len1:=(by rw[HL1.out];exact Nat.lt_succ_self _);obtain ⟨kf,nf,df,sf,of,lf,cf,HE2⟩:=zbb HR1.out (j:=1) rfl (ob+5) (ob+6) (ob+7) (ob+8) (ob+9) rfl rfl rfl rfl rfl;obtain ⟨kb,nb,db,sb,ob',lb,cb,HE3⟩:=zbb HR1.out (j:=2) rfl (ob+10) (ob+11) (ob+12) (ob+13) (ob+14) rfl rfl rfl rfl rfl) | (go_at_call 20;refine (zap sh true HKY.out _).mono ?_;rintro e' wN ⟨rfl,rfl⟩) | (go_at_call 74;(first | with_reducible refine (HIS.out _ _ _ hi0).mono ?_ | with_reducible refine (HIS.out _ _ _ hi1).mono ?_ | with_reducible refine (HIS.out _ _ _ hi2).mono ?_ | with_reducible refine (HIS.out _ _ _ hi3).mono ?_ | with_reducible refine (HIS.out _ _ _ hi4).mono ?_ | with_reducible refine (HIS.out _ _ _ hi5).mono ?_ | with_reducible refine (HIS.out _ _ _ hi6).mono ?_);rintro e' wN ⟨rfl,hbN⟩;have HBW:=zh (Below.next HBW.out hbN);obtain ⟨e0,e1,e2,e3,e4⟩:=HEL.out _ HBW.out;clear hbN;obtain ⟨f0,f1,f2,f3,f4,fr⟩:=HE2.out _ HBW.out;obtain ⟨g0,g1,g2,g3,g4,gr⟩:=HE3.out _ HBW.out;have HGR:=zh gr;clear gr) | (go_at_call 76;refine (HFO.out _ _ fr).mono ?_;rintro e' wB ⟨vn,oB,lenB,capB,rfl,hg1,hg2,hbB,hlB⟩;obtain ⟨HK,HG⟩:=zbx hg1 hg2 hbB HGR.out;have HG1:=zh hg1;have HBB:=zh hbB;have HLB:=zh hlB;obtain ⟨g0,g1,g2,g3,g4, -⟩:=HE3.out _ (Below.next HBW.out hbB);clear hg1 hg2 hbB hlB fr) | (at_builtin;go_loud (refine zam rfl fun K hK=>zaC (S:=SR (fun _=>False) vn) (.tmp 120) (.tmp 124) rfl wN.heap.size (.slice oB lenB capB) (.slice (some ⟨wB.heap.size,0,none⟩) 1 1) vs [b] rfl HG rfl HK (by have:=HLB.out;simp only[List.length_cons,List.length_nil];omega) fun o7 len7 cap7 w7 h7 h8 h9 h10=>hK _ _ ?_)) | (go_at_call 49;refine (zaL ns vn _ _ ((HG1.out.below (Below.one _ _)).turned h9.out (fun b _ h=>.inr h)).rep.unhide (Nat.le_refl _) HNL.out).mono ?_;rw[HDI.out];rintro e' w8 ⟨rfl,hb8⟩) | (go_at_call 24;refine (HC.out _ _ ((h7.out.rep.unhide.kept hb8).wider hb8.size)).mono ?_;rintro e' w9 ⟨rfl,hb9⟩) | fail)
 go_ret
 have hb7:=Below.next HB1.out (Below.next HBW.out ((HBB.out.trans ((Below.one wB _).mono HBB.out.size)).trans h8.out))
 exact ⟨rfl,Below.next (Below.next hb7 hb8) hb9⟩
end
section
open Go Go.RowKit
namespace Sy
def expand (f:Nat) (l:List Dat):Option (Option Dat):=
 if l.any (fun x=>!Dat.right x 0 || Dat.marked x)=true then some none
 else match body (expr f) (lam f) l 0 with
  | none=>none
  | some none=>some none
  | some (some (y,_))=>if Dat.right y 0=true then some (some y) else some none
end Sy
def zeroD:Value:=.agg #[.int .i64 0,.int .i64 0,.int .i64 0,.string ⟨#[]⟩,.slice none 0 0]
def ExpPost (r:Option Dat) (w:World) (e:Ending) (w':World):Prop:=Below w.heap.size w w'∧match r with
 | some y=>∃v,e=.returned (.tuple #[v,.int .i64 0])∧RepD w' w'.heap.size y v
 | none=>e=.returned (.tuple #[zeroD,.int .i64 3])
def ExS (w:World) (bx c:Nat):Prop:=c=w.heap.size∨c=w.heap.size+1∨c=bx
theorem zdg (l:List Dat) (sl:Value) (w:World) (hv:RepS w w.heap.size l sl) (ha:l.any (fun x=>!Dat.right x 0 || Dat.marked x)=true) :
  Calls prog 10 #[sl] w (ExpPost none w):=by
 obtain ⟨W0,hW0⟩:∃W0,(w.alloc (.cells #[.int .i64 0,.int .i64 0,.int .i64 0,.string ⟨#[]⟩,.slice none 0 0] 26)).alloc (.cells #[.int .i64 0] 27)=W0:=⟨_,rfl⟩
 have hbl:Below w.heap.size w W0:=by rw[←hW0];exact (Below.one w _).trans ((Below.one _ _).mono (by simp))
 have hx0:BoxL W0 w.heap.size 26 [.int .i64 0,.int .i64 0,.int .i64 0,.string ⟨#[]⟩,.slice none 0 0]:=by rw[←hW0];exact (BoxL.new rfl _ _).alloc _
 have hx1:BoxL W0 (w.heap.size+1) 27 [.int .i64 0]:=by rw[←hW0];exact BoxL.new (by simp) _ _
 have HBL:=zh hbl
 have HX0:=zh hx0
 have HX1:=zh hx1
 have HC:=zh (zbd 25 #[] (fun x=>!Dat.right x 0 || Dat.marked x) true l sl w.heap.size W0 (RepS.kept (w:=w) hv hbl) hbl.size (fun _ _=>by kernel_rfl) (fun y hy u W hu hbW=>by
  have:=zdt y u w.heap.size W hu (by have:=hbl.size;have:=hbW.size;omega)
  simpa using this) ha)
 obtain ⟨o,len,cap,rfl, -⟩:=hv
 clear hbl hx0 hx1
 go_enter_defers func10,ntmps10
 go_wp2_with (first | (go_at_call 24;refine HC.out.mono ?_;rintro e' w1 ⟨rfl,hb1⟩;have hx2:=HX0.out.keep hb1;have hx3:=HX1.out.keep hb1;have i0:=hx2.cell 0 rfl;have i1:=hx2.cell 1 rfl;have i2:=hx2.cell 2 rfl;have i3:=hx2.cell 3 rfl;have i4:=hx2.cell 4 rfl;have f0:=hx2.free 0;have f1:=hx2.free 1;have f2:=hx2.free 2;have f3:=hx2.free 3;have f4:=hx2.free 4;have j0:=hx3.cell 0 rfl;have g0:=hx3.free 0;have il:=hx2.lt;have jl:=hx3.lt;have HX2:=zh hx2;have HX3:=zh hx3;have HB1:=zh hb1;clear hx2 hx3 hb1))
 have r0:=(((((HX2.out.set 0 (.int .i64 0)).set 1 (.int .i64 0)).set 2 (.int .i64 0)).set 3 (.string ⟨#[]⟩)).set 4 (.slice none 0 0)).other ⟨w.heap.size+1,0,none⟩ (.int .i64 3) (by simp)
 have r1:=(((((HX3.out.other ⟨w.heap.size,0,none⟩ (.int .i64 0) (by simp)).other ⟨w.heap.size,1,none⟩ (.int .i64 0) (by simp)).other ⟨w.heap.size,2,none⟩ (.int .i64 0) (by simp)).other ⟨w.heap.size,3,none⟩ (.string ⟨#[]⟩) (by simp)).other ⟨w.heap.size,4,none⟩ (.slice none 0 0) (by simp)).set 0 (.int .i64 3)
 have e0:=r0.cell 0 rfl
 have e1:=r0.cell 1 rfl
 have e2:=r0.cell 2 rfl
 have e3:=r0.cell 3 rfl
 have e4:=r0.cell 4 rfl
 have k0:=r1.cell 0 rfl
 refine ⟨.tuple #[zeroD,.int .i64 3],by simp[results,results10,go_sem,e0,e1,e2,e3,e4,k0,zeroD],?_⟩
 refine ⟨?_,rfl⟩
 have ht:=(((((Turned.set (S:=fun c=>c=w.heap.size∨c=w.heap.size+1) w1 ⟨w.heap.size,0,none⟩ (.int .i64 0) (.inl rfl)).next (Turned.set _ ⟨w.heap.size,1,none⟩ (.int .i64 0) (.inl rfl))).next (Turned.set _ ⟨w.heap.size,2,none⟩ (.int .i64 0) (.inl rfl))).next (Turned.set _ ⟨w.heap.size,3,none⟩ (.string ⟨#[]⟩) (.inl rfl))).next (Turned.set _ ⟨w.heap.size,4,none⟩ (.slice none 0 0) (.inl rfl))).next (Turned.set _ ⟨w.heap.size+1,0,none⟩ (.int .i64 3) (.inr rfl))
 exact (Below.next HBL.out HB1.out).trans (ht.below (fun q hq=>by omega) (by have:=HBL.out.size;have:=HB1.out.size;omega))
theorem zdo {f:Nat} {l:List Dat} {r:Option (Dat × Nat)} (hr:Sy.body (Sy.expr f) (Sy.lam f) l 0=some r) (hsm:∀y∈l,Sy.small y=true) (hl:l.length≤100000) (sl:Value) (w w1:World) (hv:RepS w w.heap.size l sl) (hV:Env w) (hb:Below w.heap.size w w1) (hz:w.heap.size+2≤w1.heap.size) :
  Calls prog 29 #[.pointer (some ⟨w1.heap.size,0,none⟩),sl] (w1.alloc (.cells #[.int .i64 0] 45)) (XRes (ExS w w1.heap.size) w1.heap.size r (w1.alloc (.cells #[.int .i64 0] 45))):=by
 have hb2:Below w.heap.size w (w1.alloc (.cells #[.int .i64 0] 45)):=hb.trans ((Below.one w1 _).mono hb.size)
 obtain ⟨hE,hL⟩:=zgf f
 refine zjA hE hL (ExS w w1.heap.size) w1.heap.size 0 l sl _ r ?_ ?_ (.inr (.inr rfl)) (BoxL.new rfl _ _) (Env.below hV hb2) ?_ hl
 ·unfold Sy.within
  have:(l.all Sy.small&&decide (l.length≤100000))=true:=by simp only[Bool.and_eq_true,List.all_eq_true,decide_eq_true_eq];exact ⟨hsm,hl⟩
  simp only[this,if_true]
  exact hr
 ·intro c hc
  have hs:(w1.alloc (.cells #[.int .i64 0] 45)).heap.size=w1.heap.size+1:=by simp
  unfold ExS at hc
  omega
 ·refine RepS.wider (RepS.mono (fun c o u hc=>?_) hv) hb2.size
  have hlt:=zai hc
  rw[zaV (by unfold ExS;have:=hb.size;omega)]
  exact (hb2.cell (p:=⟨c,o,none⟩) hlt).trans hc
theorem zdq {l:List Dat} (sl:Value) (w W0:World) (hv:RepS w w.heap.size l sl) (ha:l.any (fun x=>!Dat.right x 0 || Dat.marked x)=false) (hbl:Below w.heap.size w W0) :
  Calls prog 24 #[sl,.func (.func 25) #[] #[]] W0 fun e w'=>e=.returned (.bool false)∧Below W0.heap.size W0 w':=
 zbd 25 #[] (fun x=>!Dat.right x 0 || Dat.marked x) false l sl w.heap.size W0 (RepS.kept (w:=w) hv hbl) hbl.size (fun _ _=>by kernel_rfl) (fun y hy u W hu hbW=>by
  have:=zdt y u w.heap.size W hu (by have:=hbl.size;have:=hbW.size;omega)
  simpa using this) ha
theorem zes {f:Nat} (l:List Dat) (sl:Value) (w:World) (hv:RepS w w.heap.size l sl) (hV:Env w) (ha:l.any (fun x=>!Dat.right x 0 || Dat.marked x)=false) (hr:Sy.body (Sy.expr f) (Sy.lam f) l 0=some none) (hsm:∀y∈l,Sy.small y=true) (hl:l.length≤100000) :
  Calls prog 10 #[sl] w (ExpPost none w):=by
 have hmf:∀(fn:Fn) (first cap:Array Value) (w:World),(Instr.makeFunc fn first cap).run prog w=.ok (.func fn first cap) w:=fun _ _ _ _=>rfl
 obtain ⟨W0,hW0⟩:∃W0,(w.alloc (.cells #[.int .i64 0,.int .i64 0,.int .i64 0,.string ⟨#[]⟩,.slice none 0 0] 26)).alloc (.cells #[.int .i64 0] 27)=W0:=⟨_,rfl⟩
 have hbl:Below w.heap.size w W0:=by rw[←hW0];exact (Below.one w _).trans ((Below.one _ _).mono (by simp))
 have hz0:W0.heap.size=w.heap.size+2:=by rw[←hW0];simp
 have hx0:BoxL W0 w.heap.size 26 [.int .i64 0,.int .i64 0,.int .i64 0,.string ⟨#[]⟩,.slice none 0 0]:=by rw[←hW0];exact (BoxL.new rfl _ _).alloc _
 have hx1:BoxL W0 (w.heap.size+1) 27 [.int .i64 0]:=by rw[←hW0];exact BoxL.new (by simp) _ _
 have HBL:=zh hbl
 have HZ0:=zh hz0
 have HX0:=zh hx0
 have HX1:=zh hx1
 have HC:=zh (zdq sl w W0 hv ha hbl)
 have HBODY:=zh fun (w1:World) (hb1:Below W0.heap.size W0 w1)=>zdo hr hsm hl sl w w1 hv hV (Below.next hbl hb1) (by have:=hb1.size;omega)
 obtain ⟨o,len,cap,rfl, -⟩:=hv
 clear hbl hx0 hx1 hz0 ha hr hsm hl hV
 go_enter_defers func10,ntmps10
 go_wp2_with (first | (go_at_call 24;refine HC.out.mono ?_;rintro e' w1 ⟨rfl,hb1⟩;have HB1:=zh hb1;clear hb1) | (go_at_call 29;refine (HBODY.out w1 HB1.out).mono ?_;rintro e' w2 ⟨rfl,ht2⟩))
 refine leaves_cons (f:=28) (args:=#[.pointer (some ⟨w.heap.size,0,none⟩),.pointer (some ⟨w.heap.size+1,0,none⟩)]) (by simp) (by simp[go_sem]) ?_
 have hz1:=HB1.out.size
 have hz2:=HZ0.out
 have b0:=ht2.box ((HX0.out.keep HB1.out).alloc (.cells #[.int .i64 0] 45)) (show ¬w.heap.size=w1.heap.size from by omega)
 have b1:=ht2.box ((HX1.out.keep HB1.out).alloc (.cells #[.int .i64 0] 45)) (show ¬w.heap.size+1=w1.heap.size from by omega)
 refine (zcD _ _ _ _ _ _ _ _ _ b0 b1).mono ?_
 rintro e u' w3 ⟨rfl,rfl,r0,r1,ht3⟩
 have e0:=r0.cell 0 rfl
 have e1:=r0.cell 1 rfl
 have e2:=r0.cell 2 rfl
 have e3:=r0.cell 3 rfl
 have e4:=r0.cell 4 rfl
 have k0:=r1.cell 0 rfl
 simp[Leaves,settle,results,results10,go_sem,e0,e1,e2,e3,e4,k0]
 refine ⟨?_,rfl⟩
 have hbA:=Below.next HBL.out HB1.out
 exact ((hbA.trans ((Below.one w1 _).mono hbA.size)).trans (ht2.below (fun q hq=>by have:=hbA.size;omega) (by have:=hbA.size;simp;omega))).trans (ht3.below (fun q hq=>by omega) (by have:=hbA.size;have:=ht2.size;simp at this;omega))
theorem zfU {f:Nat} (l:List Dat) (sl:Value) (w:World) (hv:RepS w w.heap.size l sl) (hV:Env w) (ha:l.any (fun x=>!Dat.right x 0 || Dat.marked x)=false) (y:Dat) (n:Nat) (hr:Sy.body (Sy.expr f) (Sy.lam f) l 0=some (some (y,n))) (hsm:∀y∈l,Sy.small y=true) (hl:l.length≤100000) :
  Calls prog 10 #[sl] w (ExpPost (if Dat.right y 0=true then some y else none) w):=by
 obtain ⟨res,hres⟩:∃res,(if Dat.right y 0=true then some y else none)=res:=⟨_,rfl⟩
 rw[hres]
 have HRES:=zh hres
 clear hres
 have hmf:∀(fn:Fn) (first cap:Array Value) (w:World),(Instr.makeFunc fn first cap).run prog w=.ok (.func fn first cap) w:=fun _ _ _ _=>rfl
 obtain ⟨W0,hW0⟩:∃W0,(w.alloc (.cells #[.int .i64 0,.int .i64 0,.int .i64 0,.string ⟨#[]⟩,.slice none 0 0] 26)).alloc (.cells #[.int .i64 0] 27)=W0:=⟨_,rfl⟩
 have hbl:Below w.heap.size w W0:=by rw[←hW0];exact (Below.one w _).trans ((Below.one _ _).mono (by simp))
 have hz0:W0.heap.size=w.heap.size+2:=by rw[←hW0];simp
 have hx0:BoxL W0 w.heap.size 26 [.int .i64 0,.int .i64 0,.int .i64 0,.string ⟨#[]⟩,.slice none 0 0]:=by rw[←hW0];exact (BoxL.new rfl _ _).alloc _
 have hx1:BoxL W0 (w.heap.size+1) 27 [.int .i64 0]:=by rw[←hW0];exact BoxL.new (by simp) _ _
 have HBL:=zh hbl
 have HZ0:=zh hz0
 have HX0:=zh hx0
 have HX1:=zh hx1
 have HC:=zh (zdq sl w W0 hv ha hbl)
 have HBODY:=zh fun (w1:World) (hb1:Below W0.heap.size W0 w1)=>zdo hr hsm hl sl w w1 hv hV (Below.next hbl hb1) (by have:=hb1.size;omega)
 obtain ⟨o,len,cap,rfl, -⟩:=hv
 have HV0:=zh hV
 clear hbl hx0 hx1 hz0 ha hr hsm hl hV
 go_enter_defers func10,ntmps10
 go_upto_region 6 with (first | (go_at_call 24;refine HC.out.mono ?_;rintro e' w1 ⟨rfl,hb1⟩;have HB1:=zh hb1;clear hb1) | (go_at_call 29;refine (HBODY.out w1 HB1.out).mono ?_;rintro e' w2 ⟨v,rfl,hrep,ht2,hxp⟩;obtain ⟨k9,n9,d9,s9,o9,len9,cap9,rfl⟩:=zae hrep.unhide;have hz1:=HB1.out.size;have hz2:=HZ0.out;have b0:=ht2.box ((HX0.out.keep HB1.out).alloc (.cells #[.int .i64 0] 45)) (show ¬w.heap.size=w1.heap.size from by omega);have b1:=ht2.box ((HX1.out.keep HB1.out).alloc (.cells #[.int .i64 0] 45)) (show ¬w.heap.size+1=w1.heap.size from by omega);have i0:=b0.cell 0 rfl;have i1:=b0.cell 1 rfl;have i2:=b0.cell 2 rfl;have i3:=b0.cell 3 rfl;have i4:=b0.cell 4 rfl;have f0:=b0.free 0;have f1:=b0.free 1;have f2:=b0.free 2;have f3:=b0.free 3;have f4:=b0.free 4;have il:=b0.lt;have HREP:=zh hrep;have HT2:=zh ht2;have HX2:=zh b0;have HX3:=zh b1;have HZ1:=zh hz1;have HZ2:=zh hz2;clear hrep ht2 hxp b0 b1 hz1 hz2))
 have hx4:BoxL (((((w2.setCell ⟨w.heap.size,0,none⟩ (.int .i64 k9)).setCell ⟨w.heap.size,1,none⟩ (.int .i64 n9)).setCell ⟨w.heap.size,2,none⟩ (.int .i64 d9)).setCell ⟨w.heap.size,3,none⟩ (.string s9)).setCell ⟨w.heap.size,4,none⟩ (.slice o9 len9 cap9)) w.heap.size 26 [.int .i64 k9,.int .i64 n9,.int .i64 d9,.string s9,.slice o9 len9 cap9]:=((((HX2.out.set 0 (.int .i64 k9)).set 1 (.int .i64 n9)).set 2 (.int .i64 d9)).set 3 (.string s9)).set 4 (.slice o9 len9 cap9)
 have hx5:BoxL (((((w2.setCell ⟨w.heap.size,0,none⟩ (.int .i64 k9)).setCell ⟨w.heap.size,1,none⟩ (.int .i64 n9)).setCell ⟨w.heap.size,2,none⟩ (.int .i64 d9)).setCell ⟨w.heap.size,3,none⟩ (.string s9)).setCell ⟨w.heap.size,4,none⟩ (.slice o9 len9 cap9)) (w.heap.size+1) 27 [.int .i64 0]:=((((HX3.out.other ⟨w.heap.size,0,none⟩ (.int .i64 k9) (by simp)).other ⟨w.heap.size,1,none⟩ (.int .i64 n9) (by simp)).other ⟨w.heap.size,2,none⟩ (.int .i64 d9) (by simp)).other ⟨w.heap.size,3,none⟩ (.string s9) (by simp)).other ⟨w.heap.size,4,none⟩ (.slice o9 len9 cap9) (by simp)
 have hrep3:RepD (hide (((((w2.setCell ⟨w.heap.size,0,none⟩ (.int .i64 k9)).setCell ⟨w.heap.size,1,none⟩ (.int .i64 n9)).setCell ⟨w.heap.size,2,none⟩ (.int .i64 d9)).setCell ⟨w.heap.size,3,none⟩ (.string s9)).setCell ⟨w.heap.size,4,none⟩ (.slice o9 len9 cap9)) (ExS w w1.heap.size)) (((((w2.setCell ⟨w.heap.size,0,none⟩ (.int .i64 k9)).setCell ⟨w.heap.size,1,none⟩ (.int .i64 n9)).setCell ⟨w.heap.size,2,none⟩ (.int .i64 d9)).setCell ⟨w.heap.size,3,none⟩ (.string s9)).setCell ⟨w.heap.size,4,none⟩ (.slice o9 len9 cap9)).heap.size y (.agg #[.int .i64 k9,.int .i64 n9,.int .i64 d9,.string s9,.slice o9 len9 cap9]):=HREP.out.shown (Shown.five w2 (S:=ExS w w1.heap.size) (B:=w.heap.size) (.inl rfl) (.int .i64 k9) (.int .i64 n9) (.int .i64 d9) (.string s9) (.slice o9 len9 cap9)) (by simp)
 have ht3:Turned (fun c=>c=w.heap.size) w2 (((((w2.setCell ⟨w.heap.size,0,none⟩ (.int .i64 k9)).setCell ⟨w.heap.size,1,none⟩ (.int .i64 n9)).setCell ⟨w.heap.size,2,none⟩ (.int .i64 d9)).setCell ⟨w.heap.size,3,none⟩ (.string s9)).setCell ⟨w.heap.size,4,none⟩ (.slice o9 len9 cap9)):=((((Turned.set (S:=fun c=>c=w.heap.size) w2 ⟨w.heap.size,0,none⟩ (.int .i64 k9) rfl).next (Turned.set _ ⟨w.heap.size,1,none⟩ (.int .i64 n9) rfl)).next (Turned.set _ ⟨w.heap.size,2,none⟩ (.int .i64 d9) rfl)).next (Turned.set _ ⟨w.heap.size,3,none⟩ (.string s9) rfl)).next (Turned.set _ ⟨w.heap.size,4,none⟩ (.slice o9 len9 cap9) rfl)
 clear i0 i1 i2 i3 i4 f0 f1 f2 f3 f4 il
 generalize (((((w2.setCell ⟨w.heap.size,0,none⟩ (.int .i64 k9)).setCell ⟨w.heap.size,1,none⟩ (.int .i64 n9)).setCell ⟨w.heap.size,2,none⟩ (.int .i64 d9)).setCell ⟨w.heap.size,3,none⟩ (.string s9)).setCell ⟨w.heap.size,4,none⟩ (.slice o9 len9 cap9))=W3 at hx4 hx5 hrep3 ht3 ⊢
 have hrt:=zbz y (.agg #[.int .i64 k9,.int .i64 n9,.int .i64 d9,.string s9,.slice o9 len9 cap9]) W3.heap.size W3 hrep3.unhide (Nat.le_refl _)
 have hbA:=Below.next HBL.out HB1.out
 have hbB:Below w.heap.size w W3:=((hbA.trans ((Below.one w1 _).mono hbA.size)).trans (HT2.out.below (fun q hq=>by have:=hbA.size;omega) (by have:=hbA.size;simp;omega))).trans (ht3.below (fun q hq=>by omega) (by have:=hbA.size;have:=HT2.out.size;simp at this;omega))
 have b0:=hx4
 have b1:=hx5
 have i0:=b0.cell 0 rfl
 have i1:=b0.cell 1 rfl
 have i2:=b0.cell 2 rfl
 have i3:=b0.cell 3 rfl
 have i4:=b0.cell 4 rfl
 have f0:=b0.free 0
 have f1:=b0.free 1
 have f2:=b0.free 2
 have f3:=b0.free 3
 have f4:=b0.free 4
 have il:=b0.lt
 have j0:=b1.cell 0 rfl
 have g0:=b1.free 0
 have jl:=b1.lt
 have HX4:=zh hx4
 have HX5:=zh hx5
 have HR3:=zh hrep3
 have HBB:=zh hbB
 clear hx4 hx5 hrep3 ht3 hbA hbB b0 b1
 cases hri:Dat.right y 0 with
 | false=>
  rw[hri] at hrt
  obtain rfl:res=none:=by rw[←HRES.out,hri];rfl
  have HRT:=zh hrt
  clear hrt hri
  go_wp2_with (first | (go_at_call 26;refine HRT.out.mono ?_;rintro e' w4 ⟨rfl,hb4⟩) | (go_at_call 30;refine (zaf _).mono ?_;rintro e' w5 ⟨rfl,rfl⟩))
  refine leaves_cons (f:=28) (args:=#[.pointer (some ⟨w.heap.size,0,none⟩),.pointer (some ⟨w.heap.size+1,0,none⟩)]) (by simp) (by simp[go_sem]) ?_
  refine (zcD _ _ _ _ _ _ _ _ _ (HX4.out.keep hb4) (HX5.out.keep hb4)).mono ?_
  rintro e u' w6 ⟨rfl,rfl,r0,r1,ht3⟩
  have e0:=r0.cell 0 rfl
  have e1:=r0.cell 1 rfl
  have e2:=r0.cell 2 rfl
  have e3:=r0.cell 3 rfl
  have e4:=r0.cell 4 rfl
  have k0:=r1.cell 0 rfl
  simp[Leaves,settle,results,results10,go_sem,e0,e1,e2,e3,e4,k0]
  refine ⟨?_,rfl⟩
  have hbC:=Below.next HBB.out hb4
  exact hbC.trans (ht3.below (fun q hq=>by omega) hbC.size)
 | true=>
  rw[hri] at hrt
  obtain rfl:res=some y:=by rw[←HRES.out,hri];rfl
  have HRT:=zh hrt
  clear hrt hri
  go_wp2_with (first | (go_at_call 26;refine HRT.out.mono ?_;rintro e' w4 ⟨rfl,hb4⟩;have b0:=HX4.out.keep hb4;have b1:=HX5.out.keep hb4;clear i0 i1 i2 i3 i4 f0 f1 f2 f3 f4 il j0 g0 jl;have i0:=b0.cell 0 rfl;have i1:=b0.cell 1 rfl;have i2:=b0.cell 2 rfl;have i3:=b0.cell 3 rfl;have i4:=b0.cell 4 rfl;have f0:=b0.free 0;have f1:=b0.free 1;have f2:=b0.free 2;have f3:=b0.free 3;have f4:=b0.free 4;have il:=b0.lt;have j0:=b1.cell 0 rfl;have g0:=b1.free 0;have jl:=b1.lt;have HB4:=zh hb4;have HX6:=zh b0;have HX7:=zh b1;clear b0 b1 hb4) | (go_at_call 30;refine (zag _).mono ?_;rintro e' w5 ⟨⟨nv,rfl⟩,rfl⟩))
  refine leaves_cons (f:=28) (args:=#[.pointer (some ⟨w.heap.size,0,none⟩),.pointer (some ⟨w.heap.size+1,0,none⟩)]) (by simp) (by simp[go_sem]) ?_
  refine (zfO _ _ _).mono ?_
  rintro e u' w6 ⟨rfl,rfl,rfl⟩
  have r0:=(((((HX6.out.set 0 (.int .i64 k9)).set 1 (.int .i64 n9)).set 2 (.int .i64 d9)).set 3 (.string s9)).set 4 (.slice o9 len9 cap9)).other ⟨w.heap.size+1,0,none⟩ (.int .i64 0) (by simp)
  have r1:=(((((HX7.out.other ⟨w.heap.size,0,none⟩ (.int .i64 k9) (by simp)).other ⟨w.heap.size,1,none⟩ (.int .i64 n9) (by simp)).other ⟨w.heap.size,2,none⟩ (.int .i64 d9) (by simp)).other ⟨w.heap.size,3,none⟩ (.string s9) (by simp)).other ⟨w.heap.size,4,none⟩ (.slice o9 len9 cap9) (by simp)).set 0 (.int .i64 0)
  have e0:=r0.cell 0 rfl
  have e1:=r0.cell 1 rfl
  have e2:=r0.cell 2 rfl
  have e3:=r0.cell 3 rfl
  have e4:=r0.cell 4 rfl
  have k0:=r1.cell 0 rfl
  simp[Leaves,settle,results,results10,go_sem,e0,e1,e2,e3,e4,k0]
  have ht:=(((((Turned.set (S:=fun c=>c=w.heap.size∨c=w.heap.size+1) w5 ⟨w.heap.size,0,none⟩ (.int .i64 k9) (.inl rfl)).next (Turned.set _ ⟨w.heap.size,1,none⟩ (.int .i64 n9) (.inl rfl))).next (Turned.set _ ⟨w.heap.size,2,none⟩ (.int .i64 d9) (.inl rfl))).next (Turned.set _ ⟨w.heap.size,3,none⟩ (.string s9) (.inl rfl))).next (Turned.set _ ⟨w.heap.size,4,none⟩ (.slice o9 len9 cap9) (.inl rfl))).next (Turned.set _ ⟨w.heap.size+1,0,none⟩ (.int .i64 0) (.inr rfl))
  have hbC:=Below.next HBB.out HB4.out
  refine ⟨hbC.trans (ht.below (fun q hq=>by omega) hbC.size),_,rfl,?_⟩
  exact ((HR3.out.shown (Shown.below HB4.out) HB4.out.size).shown (Shown.turned (S:=ExS w w1.heap.size) ht fun b _ hb=>hb.elim .inl fun h=>.inr (.inl h)) ht.size).unhide
theorem zhn {f:Nat} (l:List Dat) (sl:Value) (w:World) (hv:RepS w w.heap.size l sl) (hV:Env w) (res:Option Dat) (hr:Sy.expand f l=some res) (hsm:∀y∈l,Sy.small y=true) (hl:l.length≤100000) :
  Calls prog 10 #[sl] w (ExpPost res w):=by
 unfold Sy.expand at hr
 split at hr
 ·rename_i ha
  cases hr
  exact zdg l sl w hv ha
 ·rename_i ha
  have ha2:l.any (fun x=>!Dat.right x 0 || Dat.marked x)=false:=by simpa only[Bool.not_eq_true] using ha
  split at hr
  ·cases hr
  ·rename_i hb
   cases hr
   exact zes l sl w hv hV ha2 hb hsm hl
  ·rename_i y n hb
   have:=zfU l sl w hv hV ha2 y n hb hsm hl
   split at hr
   ·rename_i hri
    cases hr
    rwa[if_pos hri] at this
   ·rename_i hri
    cases hr
    rwa[if_neg hri] at this
end
section
open Go Go.RowKit
namespace Dat
theorem right_tidy (x:Dat):∀deep,right x deep=true→tidy x=true:=by
 induction x using Dat.ind with
 | h k n d s l ih=>
  intro deep h
  simp only[right,Bool.and_eq_true] at h
  obtain ⟨_,hh,hl⟩:=h
  simp only[tidy,Bool.and_eq_true]
  refine ⟨?_,?_,zcU.2 fun y hy=>ih y hy _ ((zcm _ _).1 hl y hy)⟩
  ·by_cases hk:k=6
   ·subst hk
    simp[head] at hh
    simp[hh]
   ·simp[hk]
  ·by_cases hk:k=2
   ·subst hk
    simp[head] at hh
    simp[hh]
   ·simp[hk]
end Dat
namespace Sy
open Dat
theorem wt_allL:∀l:List Dat,wt l=l.length+Dat.allL l
 | []=>rfl
 | x::l=>by
  simp only[wt,Dat.allL,List.length_cons,wt_allL l]
  omega
def exp (l:List Dat):Option Dat:=(expand 100000 l).getD none
theorem exp_some {l:List Dat} (hw:wt l≤100000):expand 100000 l=some (exp l)∧∀y,exp l=some y→Dat.right y 0=true∧Dat.all y≤60*wt l+15∧(∀x∈l,Dat.right x 0=true∧Dat.marked x=false)∧∃n,body (expr 100000) (lam 100000) l 0=some (some (y,n)):=by
 have key:∃o,expand 100000 l=some o∧∀y,o=some y→Dat.right y 0=true∧Dat.all y≤60*wt l+15∧(∀x∈l,Dat.right x 0=true∧Dat.marked x=false)∧∃n,body (expr 100000) (lam 100000) l 0=some (some (y,n)):=by
  unfold expand
  split
  ·exact ⟨none,rfl,fun y h=>by cases h⟩
  ·rename_i ha
   have hal:∀x∈l,Dat.right x 0=true∧Dat.marked x=false:=fun x hx=>by
    have:(!Dat.right x 0 || Dat.marked x)=false:=by
     cases hq:(!Dat.right x 0 || Dat.marked x) with
     | false=>rfl
     | true=>exact absurd (List.any_eq_true.2 ⟨x,hx,hq⟩) ha
    simpa using this
   obtain ⟨hE,hL⟩:=zf4 100000
   obtain ⟨o,h1,h2⟩:=zen hE hL l (fun y hy=>Dat.right_tidy y 0 (hal y hy).1) (by omega) 0 (by omega)
   rw[h1]
   match o,h2 with
   | none,_=>exact ⟨none,rfl,fun y h=>by cases h⟩
   | some (y,n),h2=>
    have h3:=h2 y n rfl
    by_cases hr:Dat.right y 0=true
    ·refine ⟨some y,by simp only[hr,if_true],fun z hz=>?_⟩
     cases hz
     exact ⟨hr,h3.2,hal,n,rfl⟩
    ·exact ⟨none,by simp only[hr];rfl,fun z hz=>by cases hz⟩
 obtain ⟨o,h1,h2⟩:=key
 have h3:exp l=o:=by unfold exp;rw[h1];rfl
 exact ⟨by rw[h3,h1],fun y hy=>h2 y (by rw[←h3];exact hy)⟩
theorem exp_bad {l:List Dat} (ha:l.any (fun x=>!Dat.right x 0 || Dat.marked x)=true):exp l=none:=by
 unfold exp expand
 rw[if_pos ha]
 rfl
end Sy
theorem zfq (l:List Dat) (sl:Value) (w:World) (hv:RepS w w.heap.size l sl) (hV:Env w) (hw:Sy.wt l≤100000) :
  Calls prog 10 #[sl] w (ExpPost (Sy.exp l) w):=by
 by_cases ha:l.any (fun x=>!Dat.right x 0 || Dat.marked x)=true
 ·rw[Sy.exp_bad ha]
  exact zdg l sl w hv ha
 ·refine zhn l sl w hv hV _ (Sy.exp_some hw).1 (fun y hy=>?_) (by have:=Sy.wt_len l;omega)
  have:(!Dat.right y 0 || Dat.marked y)=false:=by
   cases hq:(!Dat.right y 0 || Dat.marked y) with
   | false=>rfl
   | true=>exact absurd (List.any_eq_true.2 ⟨y,hy,hq⟩) ha
  have hr:Dat.right y 0=true:=by simp at this;exact this.1
  exact Sy.small_iff.2 ⟨Dat.tidy_shaped y (Dat.right_tidy y 0 hr),by have:=Sy.wt_mem hy;omega⟩
end
section
open Go Go.RowKit
namespace Sy
open Dat
def coreK (C:Dat→Bool) (key:ByteArray) (t:List Dat):Bool:=
 if key=quoteB then (match t with | [_]=>true | _=>false)
 else if key=ifB then (match t with | [a,b,c]=>C a&&(C b&&C c) | _=>false)
 else if key=beginB then (match t with | []=>false | x::r=>(x::r).all C)
 else if key=lambdaB then (match t with | [f,b]=>formals f&&C b | _=>false)
 else if key=setB then (match t with | [x,v]=>isVar x&&C v | _=>false)
 else if key=letrecB∨key=letrecSB then (match t with
  | [x,b]=>(match binds x with
   | some p=>distinct p.1&&(p.2++[b]).all C
   | none=>false)
  | _=>false)
 else false
def coreF (C:Dat→Bool) (x:Dat):Bool:=
 if x.kind=2 then isVar x
 else match (split x).1 with
  | []=>false
  | h::t=>if (split x).2.kind=4 then
    (if h.kind=2∧keyword h.s=true then coreK C h.s t else (h::t).all C)
   else false
def core:Nat→Dat→Bool
 | 0,_=>false
 | f+1,x=>coreF (core f) x
def isCore (x:Dat):Bool:=core (Dat.all x) x
theorem zc4 {C C':Dat→Bool}:∀{l:List Dat},(∀y∈l,C y=C' y)→l.all C=l.all C'
 | [],_=>rfl
 | x::l,h=>by
  rw[List.all_cons,List.all_cons,h x (by simp),zc4 fun y hy=>h y (List.mem_cons_of_mem _ hy)]
theorem zgP {C C':Dat→Bool} (key:ByteArray) (t:List Dat) (n:Nat) (ht:∀y∈t,tidy y=true) (hw:wt t≤n) (h:∀y,tidy y=true→Dat.all y<n→C y=C' y):coreK C key t=coreK C' key t:=by
 have hm:∀y∈t,C y=C' y:=fun y hy=>h y (ht y hy) (by have:=wt_mem hy;omega)
 unfold coreK
 split
 ·rfl
 split
 ·split
  ·rename_i a b c
   rw[hm a (by simp),hm b (by simp),hm c (by simp)]
  ·rfl
 split
 ·split
  ·rfl
  ·exact zc4 hm
 split
 ·split
  ·rename_i f b
   rw[hm b (by simp)]
  ·rfl
 split
 ·split
  ·rename_i x v
   rw[hm v (by simp)]
  ·rfl
 split
 ·split
  ·rename_i x b
   split
   ·rename_i p hp
    obtain ⟨h1,h2,h3,_⟩:=zcl (ns:=p.1) (vs:=p.2) hp (ht x (by simp))
    congr 1
    refine zc4 fun y hy=>?_
    rcases List.mem_append.1 hy with hy | hy
    ·refine h y (h3 y hy) ?_
     have:=wt_mem hy
     simp only[wt] at hw
     omega
    ·rw[List.mem_singleton.1 hy];exact hm b (by simp)
   ·rfl
  ·rfl
 ·rfl
theorem zer {C C':Dat→Bool} (x:Dat) (hx:tidy x=true) (h:∀y,tidy y=true→Dat.all y<Dat.all x→C y=C' y):coreF C x=coreF C' x:=by
 have h1:=zbf hx
 have h2:=(zaW x hx).1
 unfold coreF
 split
 ·rfl
 ·split
  ·rfl
  ·rename_i a t hsp
   rw[hsp] at h1 h2
   split
   ·split
    ·simp only[wt] at h1
     exact zgP a.s t (Dat.all x) (fun y hy=>h2 y (List.mem_cons_of_mem _ hy)) (by omega) h
    ·exact zc4 fun y hy=>h y (h2 y hy) (by have:=wt_mem hy;omega)
   ·rfl
theorem zfY:∀(f g:Nat) (x:Dat),tidy x=true→Dat.all x≤f→Dat.all x≤g→core f x=core g x
 | 0,_,x,_,h,_=>by have:=za8 x;omega
 | _+1,0,x,_,_,h=>by have:=za8 x;omega
 | f+1,g+1,x,hx,h1,h2=>by
  show coreF (core f) x=coreF (core g) x
  exact zer x hx fun y hy hl=>zfY f g y hy (by omega) (by omega)
theorem zbO (x:Dat) (hx:tidy x=true):isCore x=coreF isCore x:=by
 unfold isCore
 obtain ⟨n,hn⟩:∃n,Dat.all x=n+1:=⟨Dat.all x-1,by have:=za8 x;omega⟩
 rw[hn]
 show coreF (core n) x=_
 exact zer x hx fun y hy hl=>zfY n (Dat.all y) y hy (by omega) (Nat.le_refl _)
theorem zeu {h:Dat} {t:List Dat} (ht:∀y∈h::t,tidy y=true):isCore (Dat.list (h::t))=if h.kind=2∧keyword h.s=true then coreK isCore h.s t else (h::t).all isCore:=by
 rw[zbO _ (zbc ht)]
 unfold coreF
 rw[if_neg (show (Dat.list (h::t)).kind≠2 from fun hk=>absurd (show (6:Int)=2 from hk) (by decide)),zcu]
 exact if_pos (show Dat.null.kind=4 from rfl)
theorem zbk {k:ByteArray} {t:List Dat} (hk:keyword k=true) (ht:∀y∈t,tidy y=true):tidy (form k t)=true∧isCore (form k t)=coreK isCore k t:=by
 have h1:∀y∈sym k::t,tidy y=true:=List.forall_mem_cons.2 ⟨rfl,ht⟩
 refine ⟨zbc h1,?_⟩
 unfold form
 rw[zeu h1]
 exact if_pos ⟨rfl,hk⟩
theorem zdd:∀{l m:List Dat} {y:Dat},y∈pairsL l m→∃a∈l,∃b∈m,y=Dat.list [a,b]
 | [],m,y,h=>by simp[pairsL] at h
 | a::l,[],y,h=>by simp[pairsL] at h
 | a::l,b::m,y,h=>by
  rw[show pairsL (a::l) (b::m)=Dat.list [a,b]::pairsL l m from rfl] at h
  rcases List.mem_cons.1 h with rfl | h
  ·exact ⟨a,by simp,b,by simp,rfl⟩
  ·obtain ⟨p,hp,q,hq,e⟩:=zdd h
   exact ⟨p,List.mem_cons_of_mem _ hp,q,List.mem_cons_of_mem _ hq,e⟩
def Cored (x:Dat):Prop:=tidy x=true∧isCore x=true
theorem zkc (l:List UInt8):keyword ⟨(37::l).toArray⟩=false:=by
 unfold keyword
 simp[kws]
theorem zlS:Cl (fun x=>tidy x=true) Cored where
 split:=fun x hx=>zaW x hx
 pair:=fun x a f hx hk hl=>by
  obtain ⟨k,n,d,s,l⟩:=x
  replace hl:l=[a,f]:=hl
  subst hl
  obtain ⟨a',b',he,h1,h2⟩:=zdZ hx hk
  simp only[List.cons.injEq,and_true] at he
  obtain ⟨rfl,rfl⟩:=he
  exact ⟨h1,h2⟩
 list:=fun l h=>zbc h
 fresh:=fun n _=>⟨rfl,by unfold isVar freshD freshB sym;simp only[Dat.kind,Dat.s,zkc];rfl⟩
 eq:=⟨rfl,by decide +kernel⟩
 leaf:=fun k n h=>by rcases h with rfl | rfl<;>rfl
 const:=fun x hx=>by
  obtain ⟨h1,h2⟩:=zbk (k:=quoteB) (t:=[x]) (by decide +kernel) (fun y hy=>by rw[List.mem_singleton.1 hy];exact hx)
  exact ⟨h1,h2⟩
 var:=fun x hx hi=>⟨hx,by
  rw[zbO x hx]
  unfold coreF
  have h:=hi
  unfold isVar at h
  simp only[Bool.and_eq_true,beq_iff_eq] at h
  rw[if_pos h.1]
  exact hi⟩
 call:=fun x l hx hl=>by
  have ht:∀y∈x::l,tidy y=true:=List.forall_mem_cons.2 ⟨hx.1,fun y hy=>(hl y hy).1⟩
  refine ⟨zbc ht,?_⟩
  rw[zeu ht]
  have hn:¬(x.kind=2∧keyword x.s=true):=fun ⟨h1,h2⟩=>by
   have h3:=hx.2
   rw[zbO x hx.1] at h3
   unfold coreF at h3
   rw[if_pos h1] at h3
   unfold isVar at h3
   rw[h2] at h3
   simp at h3
  rw[if_neg hn]
  exact List.all_eq_true.2 (List.forall_mem_cons.2 ⟨hx.2,fun y hy=>(hl y hy).2⟩)
 cond:=fun a b c ha hb hc=>by
  obtain ⟨h1,h2⟩:=zbk (k:=ifB) (t:=[a,b,c]) (by decide +kernel) (fun y hy=>by
   simp only[List.mem_cons,List.not_mem_nil,or_false] at hy
   rcases hy with rfl | rfl | rfl
   ·exact ha.1
   ·exact hb.1
   ·exact hc.1)
  refine ⟨h1,?_⟩
  rw[h2]
  unfold coreK
  rw[if_neg (by decide +kernel),if_pos rfl]
  simp only[ha.2,hb.2,hc.2,Bool.and_self]
 begin:=fun x l hx hl=>by
  obtain ⟨h1,h2⟩:=zbk (k:=beginB) (t:=x::l) (by decide +kernel) (List.forall_mem_cons.2 ⟨hx.1,fun y hy=>(hl y hy).1⟩)
  refine ⟨h1,?_⟩
  rw[h2]
  unfold coreK
  rw[if_neg (by decide +kernel),if_neg (by decide +kernel),if_pos rfl]
  exact List.all_eq_true.2 (List.forall_mem_cons.2 ⟨hx.2,fun y hy=>(hl y hy).2⟩)
 lambda:=fun f b hf hfo hb=>by
  obtain ⟨h1,h2⟩:=zbk (k:=lambdaB) (t:=[f,b]) (by decide +kernel) (fun y hy=>by
   simp only[List.mem_cons,List.not_mem_nil,or_false] at hy
   rcases hy with rfl | rfl
   ·exact hf
   ·exact hb.1)
  refine ⟨h1,?_⟩
  rw[h2]
  unfold coreK
  rw[if_neg (by decide +kernel),if_neg (by decide +kernel),if_neg (by decide +kernel),if_pos rfl]
  simp only[hfo,hb.2,Bool.and_self]
 set:=fun x v hx hi hv=>by
  obtain ⟨h1,h2⟩:=zbk (k:=setB) (t:=[x,v]) (by decide +kernel) (fun y hy=>by
   simp only[List.mem_cons,List.not_mem_nil,or_false] at hy
   rcases hy with rfl | rfl
   ·exact hx
   ·exact hv.1)
  refine ⟨h1,?_⟩
  rw[h2]
  unfold coreK
  rw[if_neg (by decide +kernel),if_neg (by decide +kernel),if_neg (by decide +kernel),if_neg (by decide +kernel),if_pos rfl]
  simp only[hi,hv.2,Bool.and_self]
 letrec:=fun k ns vs b hk hn hd hl hv hb=>by
  have hp:tidy (pairs ns vs)=true:=zbc fun y hy=>by
   obtain ⟨p,hp,q,hq,rfl⟩:=zdd hy
   refine zbc fun z hz=>?_
   simp only[List.mem_cons,List.not_mem_nil,or_false] at hz
   rcases hz with rfl | rfl
   ·exact hn _ hp
   ·exact (hv _ hq).1
  obtain ⟨h1,h2⟩:=zbk (k:=k) (t:=[pairs ns vs,b]) (by rcases hk with rfl | rfl<;>decide +kernel) (fun y hy=>by
   simp only[List.mem_cons,List.not_mem_nil,or_false] at hy
   rcases hy with rfl | rfl
   ·exact hp
   ·exact hb.1)
  refine ⟨h1,?_⟩
  rw[h2]
  unfold coreK
  have e:∀c:ByteArray,c≠letrecB→c≠letrecSB→k≠c:=fun c h1 h2 h=>by rcases hk with rfl | rfl<;>simp_all
  rw[if_neg (e _ (by decide +kernel) (by decide +kernel)),if_neg (e _ (by decide +kernel) (by decide +kernel)),if_neg (e _ (by decide +kernel) (by decide +kernel)),if_neg (e _ (by decide +kernel) (by decide +kernel)),if_neg (e _ (by decide +kernel) (by decide +kernel)),if_pos hk]
  simp only[zey hl,hd,Bool.true_and]
  refine List.all_eq_true.2 fun y hy=>?_
  rcases List.mem_append.1 hy with hy | hy
  ·exact (hv y hy).2
  ·rw[List.mem_singleton.1 hy];exact hb.2
theorem exp_core {l:List Dat} (hw:wt l≤100000) {y:Dat} (h:exp l=some y):isCore y=true:=by
 obtain ⟨_,h2⟩:=exp_some hw
 obtain ⟨_,_,h3,n,h4⟩:=h2 y h
 exact (zh2 zlS 100000 l (fun x hx=>Dat.right_tidy x 0 (h3 x hx).1) 0 y n h4).2
end Sy
end
section
open Go Go.RowKit
namespace Sy
def toldL (r:Option (List Dat)):List UInt8:=match r with
 | none=>[]
 | some l=>match exp l with
  | none=>[63]
  | some y=>Dat.full y
end Sy
def strOf (l:List UInt8):Value:=.string ⟨l.toArray⟩
theorem zk4 (s:ByteArray) (hz:s.size≤9223372036854775807) (w:World) (hE:Env w) (hw:∀l,(readD s).1=some l→Sy.wt l≤100000∧∀y,Sy.exp l=some y→(Dat.text y false).length≤140737488355328) :
  Calls prog 16 #[.string s] w fun e w'=>e=.returned (strOf (Sy.toldL (readD s).1))∧Below w.heap.size w w':=by
 have hR:=zjN s w hz
 unfold ReadPost at hR
 obtain ⟨q,hq⟩:∃q,(readD s).2=q:=⟨_,rfl⟩
 rw[hq] at hR
 cases hr:(readD s).1 with
 | none=>
  rw[hr] at hR
  have HR:=zh hR
  clear hR hr hw hE hq
  go_enter func16,ntmps16
  go_wp2_with (first | (go_at_call 13;refine HR.out.mono ?_;rintro e' w1 ⟨v,rfl, -,⟨o,len,cap,rfl⟩,hb1⟩))
  go_ret
  exact ⟨rfl,hb1⟩
 | some l=>
  rw[hr] at hR
  obtain ⟨h1,h2⟩:=hw l hr
  have hX:∀(W:World) (sl:Value),Below w.heap.size w W→RepS W W.heap.size l sl→Calls prog 10 #[sl] W (ExpPost (Sy.exp l) W):=fun W sl hb hv=>zfq l sl W hv (zbT hE hb) h1
  have HR:=zh hR
  have HE:=zh hE
  clear hR hr hw hE hq h1
  cases hx:Sy.exp l with
  | none=>
   have HX:=zh (show ∀(W:World) (sl:Value),Below w.heap.size w W→RepS W W.heap.size l sl→Calls prog 10 #[sl] W (fun e w'=>Below W.heap.size W w'∧e=.returned (.tuple #[.agg #[.int .i64 0,.int .i64 0,.int .i64 0,.string ⟨#[]⟩,.slice none 0 0],.int .i64 3])) from fun W sl hb hv=>(hX W sl hb hv).mono fun e w' h=>by rw[hx] at h;exact h)
   have HT:=zh (show Sy.toldL (some l)=[63] from by show (match Sy.exp l with | none=>[63] | some y=>Dat.full y)=[63];rw[hx])
   clear hX hx h2
   rw[HT.out]
   go_enter func16,ntmps16
   go_wp2_with (first | (go_at_call 13;refine HR.out.mono ?_;rintro e' w1 ⟨v,rfl,hv1,⟨o,len,cap,rfl⟩,hb1⟩;have HV1:=zh hv1;have HB1:=zh hb1;clear hv1 hb1) | (go_at_call 10;refine (HX.out w1 _ HB1.out HV1.out).mono ?_;rintro e' w2 ⟨hb2,rfl⟩))
   go_ret
   exact ⟨rfl,Below.next (Below.next HB1.out hb2) (Below.one _ _)⟩
  | some y=>
   have HX:=zh (show ∀(W:World) (sl:Value),Below w.heap.size w W→RepS W W.heap.size l sl→Calls prog 10 #[sl] W (fun e w'=>Below W.heap.size W w'∧∃k n d s o len cap,e=.returned (.tuple #[.agg #[.int .i64 k,.int .i64 n,.int .i64 d,.string s,.slice o len cap],.int .i64 0])∧RepD w' w'.heap.size y (.agg #[.int .i64 k,.int .i64 n,.int .i64 d,.string s,.slice o len cap])) from fun W sl hb hv=>(hX W sl hb hv).mono fun e w' h=>by
    rw[hx] at h
    obtain ⟨hb',v,rfl,hr'⟩:=h
    obtain ⟨k,n,d,s',o,len,cap,rfl⟩:=zae hr'
    exact ⟨hb',k,n,d,s',o,len,cap,rfl,hr'⟩)
   have HT:=zh (show Sy.toldL (some l)=Dat.full y from by show (match Sy.exp l with | none=>[63] | some y=>Dat.full y)=_;rw[hx])
   have HL:=zh (h2 y hx)
   have HXT:=zh (fun (W:World) (v:Value) (hv:RepD W W.heap.size y v) (hb:Below w.heap.size w W)=>zgk y v W.heap.size W hv (Nat.le_refl _) (zbT HE.out hb) (fun _=>h2 y hx))
   clear hX hx h2
   rw[HT.out]
   go_enter func16,ntmps16
   go_upto_region 5 with (first | (go_at_call 13;refine HR.out.mono ?_;rintro e' w1 ⟨v,rfl,hv1,⟨o,len,cap,rfl⟩,hb1⟩;have HV1:=zh hv1;have HB1:=zh hb1;clear hv1 hb1) | (go_at_call 10;refine (HX.out w1 _ HB1.out HV1.out).mono ?_;rintro e' w2 ⟨hb2,k7,n7,d7,s7,o7,len7,cap7,rfl,hr7⟩;have HR7:=zh hr7;have HB2:=zh hb2;clear hr7 hb2))
   obtain ⟨W3,hW3⟩:∃W3,w2.alloc (.cells #[.int .i64 k7,.int .i64 n7,.int .i64 d7,.string s7,.slice o7 len7 cap7] 26)=W3:=⟨_,rfl⟩
   have hb:Box5 W3 w2.heap.size 26 (.int .i64 k7) (.int .i64 n7) (.int .i64 d7) (.string s7) (.slice o7 len7 cap7):=by rw[←hW3];exact Box5.new w2 _ _ _ _ _ _
   have hb3:Below w2.heap.size w2 W3:=by rw[←hW3];exact Below.one _ _
   rw[hW3]
   obtain ⟨i0,i1,i2,i3,i4⟩:=hb.cells
   have il:=hb.lt
   have hbw:=Below.next (Below.next HB1.out HB2.out) hb3
   have HT3:=zh (HXT.out W3 _ ((HR7.out.kept hb3).wider hb3.size) hbw)
   have HB3:=zh hbw
   clear hb hb3 hW3 hbw
   go_wp2_with (first | (go_at_call 15;refine HT3.out.mono ?_;rintro e' w4 ⟨rfl,hb4⟩) | fail)
   go_ret
   exact ⟨rfl,Below.next HB3.out hb4⟩
end
end Go.Proofs.YtnbjhmafnigefaaGreatDoor
