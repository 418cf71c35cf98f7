/- .. -/
import Derived.Test.YtnbjhmafnigefaaGreatDoorSckA17
open Go.Proofs.Tryz
set_option maxRecDepth 100000
set_option maxHeartbeats 16000000
namespace Go.Proofs.YtnbjhmafnigefaaGreatDoor
section
open Go Go.RowKit
theorem ze6 {_C:Dat->Bool} {x:Dat} {h:Dat} {t:List Dat} {v:Value} {w:World} (hin:CIn x h (t) v w) (hh:h.kind=2) (jf:Sy.keyword h.s=true) (hi0:Sy.isNm h ⟨#[113,117,111,116,101]⟩=false) (hi1:Sy.isNm h ⟨#[105,102]⟩=false) (hi2:Sy.isNm h ⟨#[98,101,103,105,110]⟩=false) (hi3:Sy.isNm h ⟨#[108,97,109,98,100,97]⟩=false) (hi4:Sy.isNm h ⟨#[115,101,116,33]⟩=false) (hi5:Sy.isNm h ⟨#[108,101,116,114,101,99]⟩=true) (hn:t.length≠2):COut false v w:=by
 obtain ⟨k,n,d,s,o,len,cap,W0,rfl,hW0,⟨i0,i1,i2,i3,i4⟩,il,hk2,HBL,HIT⟩:=zaR hin
 have HN:=zh hn
 have HKY:=zh jf
 have HH:=zh hh
 unfold COut
 clear hin hh jf hn
 go_enter func40,ntmps40
 go_wp2_with (first | (go_at_call 73;refine HIT.out.mono ?_;rintro e' w1 ⟨bb,ob,len1,cap1,kh,nh,dh,sh,oh,lh,ch,rfl,hkh,hsn,⟨e0,e1,e2,e3,e4⟩,hl0,hz,HL1,HR1,HEL,HB1,HBW,HIS⟩;have hkq:(kh != 2)=false:=(by rw[<-hkh,HH.out];rfl);rw[hsn] at HKY;clear hkh hsn;have hn3:((len1:Int) != 3)=true:=bne_iff_ne.2 (by have:=HN.out;have:=HL1.out;rw[qzN] at this;omega)) | (go_at_call 20;refine (zap sh true HKY.out _).mono ?_;rintro e' wN ⟨rfl,rfl⟩) | (go_at_call 74;(first | with_reducible refine (HIS.out _ _ _ hi0).mono ?_ | with_reducible refine (HIS.out _ _ _ hi1).mono ?_ | with_reducible refine (HIS.out _ _ _ hi2).mono ?_ | with_reducible refine (HIS.out _ _ _ hi3).mono ?_ | with_reducible refine (HIS.out _ _ _ hi4).mono ?_ | with_reducible refine (HIS.out _ _ _ hi5).mono ?_);rintro e' wN ⟨rfl,hbN⟩;have HBW:=zh (Below.next HBW.out hbN);obtain ⟨e0,e1,e2,e3,e4⟩:=HEL.out _ HBW.out;clear hbN) | fail)
 all_goals (go_ret;exact ⟨rfl,Below.next HB1.out HBW.out⟩)
theorem zfe {_C:Dat->Bool} {x:Dat} {h:Dat} {f b:Dat} {v:Value} {w:World} (hin:CIn x h ([f,b]) v w) (hh:h.kind=2) (jf:Sy.keyword h.s=true) (hi0:Sy.isNm h ⟨#[113,117,111,116,101]⟩=false) (hi1:Sy.isNm h ⟨#[105,102]⟩=false) (hi2:Sy.isNm h ⟨#[98,101,103,105,110]⟩=false) (hi3:Sy.isNm h ⟨#[108,97,109,98,100,97]⟩=false) (hi4:Sy.isNm h ⟨#[115,101,116,33]⟩=false) (hi5:Sy.isNm h ⟨#[108,101,116,114,101,99]⟩=true) (hf:Dat.shaped f=true) (hfa:Dat.all f<=100000) (hfo:Sy.binds f=none):COut false v w:=by
 obtain ⟨k,n,d,s,o,len,cap,W0,rfl,hW0,⟨i0,i1,i2,i3,i4⟩,il,hk2,HBL,HIT⟩:=zaR hin
 have HFO:=zh (zeV hfo hf hfa)
 have HKY:=zh jf
 have HH:=zh hh
 unfold COut
 clear hin hh jf hf hfa hfo
 go_enter func40,ntmps40
 go_wp2_with (first | (go_at_call 73;refine HIT.out.mono ?_;rintro e' w1 ⟨bb,ob,len1,cap1,kh,nh,dh,sh,oh,lh,ch,rfl,hkh,hsn,⟨e0,e1,e2,e3,e4⟩,hl0,hz,HL1,HR1,HEL,HB1,HBW,HIS⟩;have hkq:(kh != 2)=false:=(by rw[<-hkh,HH.out];rfl);rw[hsn] at HKY;clear hkh hsn;have hn3:((len1:Int) != 3)=false:=(by rw[HL1.out];rfl);have hl2:1<len1:=(by rw[HL1.out];exact Nat.succ_lt_succ (Nat.succ_pos _));have hl3:2<len1:=(by rw[HL1.out];exact Nat.lt_succ_self _);obtain ⟨kf,nf,df,sf,of,lf,cf,HE2⟩:=zaB HR1.out (j:=1) rfl (ob+5) (ob+6) (ob+7) (ob+8) (ob+9) rfl rfl rfl rfl rfl;obtain ⟨kb,nb,db,sb,ob',lb,cb,HE3⟩:=zaB HR1.out (j:=2) rfl (ob+10) (ob+11) (ob+12) (ob+13) (ob+14) rfl rfl rfl rfl rfl) | (go_at_call 20;refine (zap sh true HKY.out _).mono ?_;rintro e' wN ⟨rfl,rfl⟩) | (go_at_call 74;(first | with_reducible refine (HIS.out _ _ _ hi0).mono ?_ | with_reducible refine (HIS.out _ _ _ hi1).mono ?_ | with_reducible refine (HIS.out _ _ _ hi2).mono ?_ | with_reducible refine (HIS.out _ _ _ hi3).mono ?_ | with_reducible refine (HIS.out _ _ _ hi4).mono ?_ | with_reducible refine (HIS.out _ _ _ hi5).mono ?_);rintro e' wN ⟨rfl,hbN⟩;have HBW:=zh (Below.next HBW.out hbN);obtain ⟨e0,e1,e2,e3,e4⟩:=HEL.out _ HBW.out;clear hbN;obtain ⟨f0,f1,f2,f3,f4,fr⟩:=HE2.out _ HBW.out;obtain ⟨g0,g1,g2,g3,g4,gr⟩:=HE3.out _ HBW.out;have HGR:=zh gr;clear gr) | (go_at_call 76;refine (HFO.out _ _ fr).mono ?_;rintro e' wB ⟨ln,lv,vn,oB,lenB,capB,rfl,hg1,hg2,hbB,hlB⟩;obtain ⟨HK,HG⟩:=zbk hg1 hg2 hbB HGR.out;have HG1:=zh hg1;have HBB:=zh hbB;have HLB:=zh hlB;obtain ⟨g0,g1,g2,g3,g4, -⟩:=HE3.out _ (Below.next HBW.out hbB);clear hg1 hg2 hbB hlB fr) | (at_builtin;go_loud (refine zaj rfl fun K hK=>zav (S:=SR (fun _=>False) vn) (.tmp 120) (.tmp 124) rfl wN.heap.size (.slice oB lenB capB) (.slice (some ⟨wB.heap.size,0,none⟩) 1 1) lv [b] rfl HG rfl HK (by have:=HLB.out;simp only[qzN,qzO];omega) fun o7 len7 cap7 w7 h7 h8 h9 h10=>hK _ _ ?_)) | fail)
 go_ret
 have hb7:=Below.next HB1.out (Below.next HBW.out ((HBB.out.trans ((Below.one wB _).mono HBB.out.size)).trans h8.out))
 exact ⟨rfl,hb7⟩
theorem zfz {_C:Dat->Bool} {x:Dat} {h:Dat} {f b:Dat} {ns vs:List Dat} {v:Value} {w:World} (hin:CIn x h ([f,b]) v w) (hh:h.kind=2) (jf:Sy.keyword h.s=true) (hi0:Sy.isNm h ⟨#[113,117,111,116,101]⟩=false) (hi1:Sy.isNm h ⟨#[105,102]⟩=false) (hi2:Sy.isNm h ⟨#[98,101,103,105,110]⟩=false) (hi3:Sy.isNm h ⟨#[108,97,109,98,100,97]⟩=false) (hi4:Sy.isNm h ⟨#[115,101,116,33]⟩=false) (hi5:Sy.isNm h ⟨#[108,101,116,114,101,99]⟩=true) (hf:Dat.shaped f=true) (hfa:Dat.all f<=100000) (hfo:Sy.binds f=some (ns,vs)) (hdi:Sy.distinct ns=false) (hnl:ns.length<=1000000):COut false v w:=by
 obtain ⟨k,n,d,s,o,len,cap,W0,rfl,hW0,⟨i0,i1,i2,i3,i4⟩,il,hk2,HBL,HIT⟩:=zaR hin
 have HFO:=zh (zcp hfo hf hfa)
 have HDI:=zh hdi
 have HNL:=zh hnl
 have HKY:=zh jf
 have HH:=zh hh
 unfold COut
 clear hin hh jf hf hfa hfo hdi hnl
 go_enter func40,ntmps40
 go_wp2_with (first | (go_at_call 73;refine HIT.out.mono ?_;rintro e' w1 ⟨bb,ob,len1,cap1,kh,nh,dh,sh,oh,lh,ch,rfl,hkh,hsn,⟨e0,e1,e2,e3,e4⟩,hl0,hz,HL1,HR1,HEL,HB1,HBW,HIS⟩;have hkq:(kh != 2)=false:=(by rw[<-hkh,HH.out];rfl);rw[hsn] at HKY;clear hkh hsn;have hn3:((len1:Int) != 3)=false:=(by rw[HL1.out];rfl);have hl2:1<len1:=(by rw[HL1.out];exact Nat.succ_lt_succ (Nat.succ_pos _));have hl3:2<len1:=(by rw[HL1.out];exact Nat.lt_succ_self _);obtain ⟨kf,nf,df,sf,of,lf,cf,HE2⟩:=zaB HR1.out (j:=1) rfl (ob+5) (ob+6) (ob+7) (ob+8) (ob+9) rfl rfl rfl rfl rfl;obtain ⟨kb,nb,db,sb,ob',lb,cb,HE3⟩:=zaB HR1.out (j:=2) rfl (ob+10) (ob+11) (ob+12) (ob+13) (ob+14) rfl rfl rfl rfl rfl) | (go_at_call 20;refine (zap sh true HKY.out _).mono ?_;rintro e' wN ⟨rfl,rfl⟩) | (go_at_call 74;(first | with_reducible refine (HIS.out _ _ _ hi0).mono ?_ | with_reducible refine (HIS.out _ _ _ hi1).mono ?_ | with_reducible refine (HIS.out _ _ _ hi2).mono ?_ | with_reducible refine (HIS.out _ _ _ hi3).mono ?_ | with_reducible refine (HIS.out _ _ _ hi4).mono ?_ | with_reducible refine (HIS.out _ _ _ hi5).mono ?_);rintro e' wN ⟨rfl,hbN⟩;have HBW:=zh (Below.next HBW.out hbN);obtain ⟨e0,e1,e2,e3,e4⟩:=HEL.out _ HBW.out;clear hbN;obtain ⟨f0,f1,f2,f3,f4,fr⟩:=HE2.out _ HBW.out;obtain ⟨g0,g1,g2,g3,g4,gr⟩:=HE3.out _ HBW.out;have HGR:=zh gr;clear gr) | (go_at_call 76;refine (HFO.out _ _ fr).mono ?_;rintro e' wB ⟨vn,oB,lenB,capB,rfl,hg1,hg2,hbB,hlB⟩;obtain ⟨HK,HG⟩:=zbk hg1 hg2 hbB HGR.out;have HG1:=zh hg1;have HBB:=zh hbB;have HLB:=zh hlB;obtain ⟨g0,g1,g2,g3,g4, -⟩:=HE3.out _ (Below.next HBW.out hbB);clear hg1 hg2 hbB hlB fr) | (at_builtin;go_loud (refine zaj rfl fun K hK=>zav (S:=SR (fun _=>False) vn) (.tmp 120) (.tmp 124) rfl wN.heap.size (.slice oB lenB capB) (.slice (some ⟨wB.heap.size,0,none⟩) 1 1) vs [b] rfl HG rfl HK (by have:=HLB.out;simp only[qzN,qzO];omega) fun o7 len7 cap7 w7 h7 h8 h9 h10=>hK _ _ ?_)) | (go_at_call 49;refine (zaM ns vn _ _ ((HG1.out.below (Below.one _ _)).turned h9.out (fun b _ h=>.inr h)).rep.unhide qzL HNL.out).mono ?_;rw[HDI.out];rintro e' w8 ⟨rfl,hb8⟩) | fail)
 go_ret
 have hb7:=Below.next HB1.out (Below.next HBW.out ((HBB.out.trans ((Below.one wB _).mono HBB.out.size)).trans h8.out))
 exact ⟨rfl,Below.next hb7 hb8⟩
theorem ze7 {C:Dat->Bool} {x:Dat} {h:Dat} {f b:Dat} {ns vs:List Dat} {v:Value} {w:World} (hin:CIn x h ([f,b]) v w) (hh:h.kind=2) (jf:Sy.keyword h.s=true) (hi0:Sy.isNm h ⟨#[113,117,111,116,101]⟩=false) (hi1:Sy.isNm h ⟨#[105,102]⟩=false) (hi2:Sy.isNm h ⟨#[98,101,103,105,110]⟩=false) (hi3:Sy.isNm h ⟨#[108,97,109,98,100,97]⟩=false) (hi4:Sy.isNm h ⟨#[115,101,116,33]⟩=false) (hi5:Sy.isNm h ⟨#[108,101,116,114,101,99]⟩=true) (hC:∀c∈vs++[b],CoreAt C c) (hf:Dat.shaped f=true) (hfa:Dat.all f<=100000) (hfo:Sy.binds f=some (ns,vs)) (hdi:Sy.distinct ns=true) (hnl:ns.length<=1000000):COut ((vs++[b]).all C) v w:=by
 obtain ⟨k,n,d,s,o,len,cap,W0,rfl,hW0,⟨i0,i1,i2,i3,i4⟩,il,hk2,HBL,HIT⟩:=zaR hin
 obtain ⟨r,hr⟩:∃r,(vs++[b]).all C=r:=⟨_,rfl⟩
 have HC:=zh (zaT hC hr)
 rw[hr]
 have HFO:=zh (zcp hfo hf hfa)
 have HDI:=zh hdi
 have HNL:=zh hnl
 have HKY:=zh jf
 have HH:=zh hh
 unfold COut
 clear hin hh jf hC hr hf hfa hfo hdi hnl
 go_enter func40,ntmps40
 go_wp2_with (first | (go_at_call 73;refine HIT.out.mono ?_;rintro e' w1 ⟨bb,ob,len1,cap1,kh,nh,dh,sh,oh,lh,ch,rfl,hkh,hsn,⟨e0,e1,e2,e3,e4⟩,hl0,hz,HL1,HR1,HEL,HB1,HBW,HIS⟩;have hkq:(kh != 2)=false:=(by rw[<-hkh,HH.out];rfl);rw[hsn] at HKY;clear hkh hsn;have hn3:((len1:Int) != 3)=false:=(by rw[HL1.out];rfl);have hl2:1<len1:=(by rw[HL1.out];exact Nat.succ_lt_succ (Nat.succ_pos _));have hl3:2<len1:=(by rw[HL1.out];exact Nat.lt_succ_self _);obtain ⟨kf,nf,df,sf,of,lf,cf,HE2⟩:=zaB HR1.out (j:=1) rfl (ob+5) (ob+6) (ob+7) (ob+8) (ob+9) rfl rfl rfl rfl rfl;obtain ⟨kb,nb,db,sb,ob',lb,cb,HE3⟩:=zaB HR1.out (j:=2) rfl (ob+10) (ob+11) (ob+12) (ob+13) (ob+14) rfl rfl rfl rfl rfl) | (go_at_call 20;refine (zap sh true HKY.out _).mono ?_;rintro e' wN ⟨rfl,rfl⟩) | (go_at_call 74;(first | with_reducible refine (HIS.out _ _ _ hi0).mono ?_ | with_reducible refine (HIS.out _ _ _ hi1).mono ?_ | with_reducible refine (HIS.out _ _ _ hi2).mono ?_ | with_reducible refine (HIS.out _ _ _ hi3).mono ?_ | with_reducible refine (HIS.out _ _ _ hi4).mono ?_ | with_reducible refine (HIS.out _ _ _ hi5).mono ?_);rintro e' wN ⟨rfl,hbN⟩;have HBW:=zh (Below.next HBW.out hbN);obtain ⟨e0,e1,e2,e3,e4⟩:=HEL.out _ HBW.out;clear hbN;obtain ⟨f0,f1,f2,f3,f4,fr⟩:=HE2.out _ HBW.out;obtain ⟨g0,g1,g2,g3,g4,gr⟩:=HE3.out _ HBW.out;have HGR:=zh gr;clear gr) | (go_at_call 76;refine (HFO.out _ _ fr).mono ?_;rintro e' wB ⟨vn,oB,lenB,capB,rfl,hg1,hg2,hbB,hlB⟩;obtain ⟨HK,HG⟩:=zbk hg1 hg2 hbB HGR.out;have HG1:=zh hg1;have HBB:=zh hbB;have HLB:=zh hlB;obtain ⟨g0,g1,g2,g3,g4, -⟩:=HE3.out _ (Below.next HBW.out hbB);clear hg1 hg2 hbB hlB fr) | (at_builtin;go_loud (refine zaj rfl fun K hK=>zav (S:=SR (fun _=>False) vn) (.tmp 120) (.tmp 124) rfl wN.heap.size (.slice oB lenB capB) (.slice (some ⟨wB.heap.size,0,none⟩) 1 1) vs [b] rfl HG rfl HK (by have:=HLB.out;simp only[qzN,qzO];omega) fun o7 len7 cap7 w7 h7 h8 h9 h10=>hK _ _ ?_)) | (go_at_call 49;refine (zaM ns vn _ _ ((HG1.out.below (Below.one _ _)).turned h9.out (fun b _ h=>.inr h)).rep.unhide qzL HNL.out).mono ?_;rw[HDI.out];rintro e' w8 ⟨rfl,hb8⟩) | (go_at_call 24;refine (HC.out _ _ ((h7.out.rep.unhide.kept hb8).wider hb8.size)).mono ?_;rintro e' w9 ⟨rfl,hb9⟩) | fail)
 go_ret
 have hb7:=Below.next HB1.out (Below.next HBW.out ((HBB.out.trans ((Below.one wB _).mono HBB.out.size)).trans h8.out))
 exact ⟨rfl,Below.next (Below.next hb7 hb8) hb9⟩
theorem zem {_C:Dat->Bool} {x:Dat} {h:Dat} {t:List Dat} {v:Value} {w:World} (hin:CIn x h (t) v w) (hh:h.kind=2) (jf:Sy.keyword h.s=true) (hi0:Sy.isNm h ⟨#[113,117,111,116,101]⟩=false) (hi1:Sy.isNm h ⟨#[105,102]⟩=false) (hi2:Sy.isNm h ⟨#[98,101,103,105,110]⟩=false) (hi3:Sy.isNm h ⟨#[108,97,109,98,100,97]⟩=false) (hi4:Sy.isNm h ⟨#[115,101,116,33]⟩=false) (hi5:Sy.isNm h ⟨#[108,101,116,114,101,99]⟩=false) (hi6:Sy.isNm h ⟨#[108,101,116,114,101,99,42]⟩=true) (hn:t.length≠2):COut false v w:=by
 obtain ⟨k,n,d,s,o,len,cap,W0,rfl,hW0,⟨i0,i1,i2,i3,i4⟩,il,hk2,HBL,HIT⟩:=zaR hin
 have HN:=zh hn
 have HKY:=zh jf
 have HH:=zh hh
 unfold COut
 clear hin hh jf hn
 go_enter func40,ntmps40
 go_wp2_with (first | (go_at_call 73;refine HIT.out.mono ?_;rintro e' w1 ⟨bb,ob,len1,cap1,kh,nh,dh,sh,oh,lh,ch,rfl,hkh,hsn,⟨e0,e1,e2,e3,e4⟩,hl0,hz,HL1,HR1,HEL,HB1,HBW,HIS⟩;have hkq:(kh != 2)=false:=(by rw[<-hkh,HH.out];rfl);rw[hsn] at HKY;clear hkh hsn;have hn3:((len1:Int) != 3)=true:=bne_iff_ne.2 (by have:=HN.out;have:=HL1.out;rw[qzN] at this;omega)) | (go_at_call 20;refine (zap sh true HKY.out _).mono ?_;rintro e' wN ⟨rfl,rfl⟩) | (go_at_call 74;(first | with_reducible refine (HIS.out _ _ _ hi0).mono ?_ | with_reducible refine (HIS.out _ _ _ hi1).mono ?_ | with_reducible refine (HIS.out _ _ _ hi2).mono ?_ | with_reducible refine (HIS.out _ _ _ hi3).mono ?_ | with_reducible refine (HIS.out _ _ _ hi4).mono ?_ | with_reducible refine (HIS.out _ _ _ hi5).mono ?_ | with_reducible refine (HIS.out _ _ _ hi6).mono ?_);rintro e' wN ⟨rfl,hbN⟩;have HBW:=zh (Below.next HBW.out hbN);obtain ⟨e0,e1,e2,e3,e4⟩:=HEL.out _ HBW.out;clear hbN) | fail)
 all_goals (go_ret;exact ⟨rfl,Below.next HB1.out HBW.out⟩)
theorem zev {_C:Dat->Bool} {x:Dat} {h:Dat} {f b:Dat} {v:Value} {w:World} (hin:CIn x h ([f,b]) v w) (hh:h.kind=2) (jf:Sy.keyword h.s=true) (hi0:Sy.isNm h ⟨#[113,117,111,116,101]⟩=false) (hi1:Sy.isNm h ⟨#[105,102]⟩=false) (hi2:Sy.isNm h ⟨#[98,101,103,105,110]⟩=false) (hi3:Sy.isNm h ⟨#[108,97,109,98,100,97]⟩=false) (hi4:Sy.isNm h ⟨#[115,101,116,33]⟩=false) (hi5:Sy.isNm h ⟨#[108,101,116,114,101,99]⟩=false) (hi6:Sy.isNm h ⟨#[108,101,116,114,101,99,42]⟩=true) (hf:Dat.shaped f=true) (hfa:Dat.all f<=100000) (hfo:Sy.binds f=none):COut false v w:=by
 obtain ⟨k,n,d,s,o,len,cap,W0,rfl,hW0,⟨i0,i1,i2,i3,i4⟩,il,hk2,HBL,HIT⟩:=zaR hin
 have HFO:=zh (zeV hfo hf hfa)
 have HKY:=zh jf
 have HH:=zh hh
 unfold COut
 clear hin hh jf hf hfa hfo
 go_enter func40,ntmps40
 go_wp2_with (first | (go_at_call 73;refine HIT.out.mono ?_;rintro e' w1 ⟨bb,ob,len1,cap1,kh,nh,dh,sh,oh,lh,ch,rfl,hkh,hsn,⟨e0,e1,e2,e3,e4⟩,hl0,hz,HL1,HR1,HEL,HB1,HBW,HIS⟩;have hkq:(kh != 2)=false:=(by rw[<-hkh,HH.out];rfl);rw[hsn] at HKY;clear hkh hsn;have hn3:((len1:Int) != 3)=false:=(by rw[HL1.out];rfl);have hl2:1<len1:=(by rw[HL1.out];exact Nat.succ_lt_succ (Nat.succ_pos _));have hl3:2<len1:=(by rw[HL1.out];exact Nat.lt_succ_self _);obtain ⟨kf,nf,df,sf,of,lf,cf,HE2⟩:=zaB HR1.out (j:=1) rfl (ob+5) (ob+6) (ob+7) (ob+8) (ob+9) rfl rfl rfl rfl rfl;obtain ⟨kb,nb,db,sb,ob',lb,cb,HE3⟩:=zaB HR1.out (j:=2) rfl (ob+10) (ob+11) (ob+12) (ob+13) (ob+14) rfl rfl rfl rfl rfl) | (go_at_call 20;refine (zap sh true HKY.out _).mono ?_;rintro e' wN ⟨rfl,rfl⟩) | (go_at_call 74;(first | with_reducible refine (HIS.out _ _ _ hi0).mono ?_ | with_reducible refine (HIS.out _ _ _ hi1).mono ?_ | with_reducible refine (HIS.out _ _ _ hi2).mono ?_ | with_reducible refine (HIS.out _ _ _ hi3).mono ?_ | with_reducible refine (HIS.out _ _ _ hi4).mono ?_ | with_reducible refine (HIS.out _ _ _ hi5).mono ?_ | with_reducible refine (HIS.out _ _ _ hi6).mono ?_);rintro e' wN ⟨rfl,hbN⟩;have HBW:=zh (Below.next HBW.out hbN);obtain ⟨e0,e1,e2,e3,e4⟩:=HEL.out _ HBW.out;clear hbN;obtain ⟨f0,f1,f2,f3,f4,fr⟩:=HE2.out _ HBW.out;obtain ⟨g0,g1,g2,g3,g4,gr⟩:=HE3.out _ HBW.out;have HGR:=zh gr;clear gr) | (go_at_call 76;refine (HFO.out _ _ fr).mono ?_;rintro e' wB ⟨ln,lv,vn,oB,lenB,capB,rfl,hg1,hg2,hbB,hlB⟩;obtain ⟨HK,HG⟩:=zbk hg1 hg2 hbB HGR.out;have HG1:=zh hg1;have HBB:=zh hbB;have HLB:=zh hlB;obtain ⟨g0,g1,g2,g3,g4, -⟩:=HE3.out _ (Below.next HBW.out hbB);clear hg1 hg2 hbB hlB fr) | (at_builtin;go_loud (refine zaj rfl fun K hK=>zav (S:=SR (fun _=>False) vn) (.tmp 120) (.tmp 124) rfl wN.heap.size (.slice oB lenB capB) (.slice (some ⟨wB.heap.size,0,none⟩) 1 1) lv [b] rfl HG rfl HK (by have:=HLB.out;simp only[qzN,qzO];omega) fun o7 len7 cap7 w7 h7 h8 h9 h10=>hK _ _ ?_)) | fail)
 go_ret
 have hb7:=Below.next HB1.out (Below.next HBW.out ((HBB.out.trans ((Below.one wB _).mono HBB.out.size)).trans h8.out))
 exact ⟨rfl,hb7⟩
theorem zej {_C:Dat->Bool} {x:Dat} {h:Dat} {f b:Dat} {ns vs:List Dat} {v:Value} {w:World} (hin:CIn x h ([f,b]) v w) (hh:h.kind=2) (jf:Sy.keyword h.s=true) (hi0:Sy.isNm h ⟨#[113,117,111,116,101]⟩=false) (hi1:Sy.isNm h ⟨#[105,102]⟩=false) (hi2:Sy.isNm h ⟨#[98,101,103,105,110]⟩=false) (hi3:Sy.isNm h ⟨#[108,97,109,98,100,97]⟩=false) (hi4:Sy.isNm h ⟨#[115,101,116,33]⟩=false) (hi5:Sy.isNm h ⟨#[108,101,116,114,101,99]⟩=false) (hi6:Sy.isNm h ⟨#[108,101,116,114,101,99,42]⟩=true) (hf:Dat.shaped f=true) (hfa:Dat.all f<=100000) (hfo:Sy.binds f=some (ns,vs)) (hdi:Sy.distinct ns=false) (hnl:ns.length<=1000000):COut false v w:=by
 obtain ⟨k,n,d,s,o,len,cap,W0,rfl,hW0,⟨i0,i1,i2,i3,i4⟩,il,hk2,HBL,HIT⟩:=zaR hin
 have HFO:=zh (zcp hfo hf hfa)
 have HDI:=zh hdi
 have HNL:=zh hnl
 have HKY:=zh jf
 have HH:=zh hh
 unfold COut
 clear hin hh jf hf hfa hfo hdi hnl
 go_enter func40,ntmps40
 go_wp2_with (first | (go_at_call 73;refine HIT.out.mono ?_;rintro e' w1 ⟨bb,ob,len1,cap1,kh,nh,dh,sh,oh,lh,ch,rfl,hkh,hsn,⟨e0,e1,e2,e3,e4⟩,hl0,hz,HL1,HR1,HEL,HB1,HBW,HIS⟩;have hkq:(kh != 2)=false:=(by rw[<-hkh,HH.out];rfl);rw[hsn] at HKY;clear hkh hsn;have hn3:((len1:Int) != 3)=false:=(by rw[HL1.out];rfl);have hl2:1<len1:=(by rw[HL1.out];exact Nat.succ_lt_succ (Nat.succ_pos _));have hl3:2<len1:=(by rw[HL1.out];exact Nat.lt_succ_self _);obtain ⟨kf,nf,df,sf,of,lf,cf,HE2⟩:=zaB HR1.out (j:=1) rfl (ob+5) (ob+6) (ob+7) (ob+8) (ob+9) rfl rfl rfl rfl rfl;obtain ⟨kb,nb,db,sb,ob',lb,cb,HE3⟩:=zaB HR1.out (j:=2) rfl (ob+10) (ob+11) (ob+12) (ob+13) (ob+14) rfl rfl rfl rfl rfl) | (go_at_call 20;refine (zap sh true HKY.out _).mono ?_;rintro e' wN ⟨rfl,rfl⟩) | (go_at_call 74;(first | with_reducible refine (HIS.out _ _ _ hi0).mono ?_ | with_reducible refine (HIS.out _ _ _ hi1).mono ?_ | with_reducible refine (HIS.out _ _ _ hi2).mono ?_ | with_reducible refine (HIS.out _ _ _ hi3).mono ?_ | with_reducible refine (HIS.out _ _ _ hi4).mono ?_ | with_reducible refine (HIS.out _ _ _ hi5).mono ?_ | with_reducible refine (HIS.out _ _ _ hi6).mono ?_);rintro e' wN ⟨rfl,hbN⟩;have HBW:=zh (Below.next HBW.out hbN);obtain ⟨e0,e1,e2,e3,e4⟩:=HEL.out _ HBW.out;clear hbN;obtain ⟨f0,f1,f2,f3,f4,fr⟩:=HE2.out _ HBW.out;obtain ⟨g0,g1,g2,g3,g4,gr⟩:=HE3.out _ HBW.out;have HGR:=zh gr;clear gr) | (go_at_call 76;refine (HFO.out _ _ fr).mono ?_;rintro e' wB ⟨vn,oB,lenB,capB,rfl,hg1,hg2,hbB,hlB⟩;obtain ⟨HK,HG⟩:=zbk hg1 hg2 hbB HGR.out;have HG1:=zh hg1;have HBB:=zh hbB;have HLB:=zh hlB;obtain ⟨g0,g1,g2,g3,g4, -⟩:=HE3.out _ (Below.next HBW.out hbB);clear hg1 hg2 hbB hlB fr) | (at_builtin;go_loud (refine zaj rfl fun K hK=>zav (S:=SR (fun _=>False) vn) (.tmp 120) (.tmp 124) rfl wN.heap.size (.slice oB lenB capB) (.slice (some ⟨wB.heap.size,0,none⟩) 1 1) vs [b] rfl HG rfl HK (by have:=HLB.out;simp only[qzN,qzO];omega) fun o7 len7 cap7 w7 h7 h8 h9 h10=>hK _ _ ?_)) | (go_at_call 49;refine (zaM ns vn _ _ ((HG1.out.below (Below.one _ _)).turned h9.out (fun b _ h=>.inr h)).rep.unhide qzL HNL.out).mono ?_;rw[HDI.out];rintro e' w8 ⟨rfl,hb8⟩) | fail)
 go_ret
 have hb7:=Below.next HB1.out (Below.next HBW.out ((HBB.out.trans ((Below.one wB _).mono HBB.out.size)).trans h8.out))
 exact ⟨rfl,Below.next hb7 hb8⟩
theorem zeu {C:Dat->Bool} {x:Dat} {h:Dat} {f b:Dat} {ns vs:List Dat} {v:Value} {w:World} (hin:CIn x h ([f,b]) v w) (hh:h.kind=2) (jf:Sy.keyword h.s=true) (hi0:Sy.isNm h ⟨#[113,117,111,116,101]⟩=false) (hi1:Sy.isNm h ⟨#[105,102]⟩=false) (hi2:Sy.isNm h ⟨#[98,101,103,105,110]⟩=false) (hi3:Sy.isNm h ⟨#[108,97,109,98,100,97]⟩=false) (hi4:Sy.isNm h ⟨#[115,101,116,33]⟩=false) (hi5:Sy.isNm h ⟨#[108,101,116,114,101,99]⟩=false) (hi6:Sy.isNm h ⟨#[108,101,116,114,101,99,42]⟩=true) (hC:∀c∈vs++[b],CoreAt C c) (hf:Dat.shaped f=true) (hfa:Dat.all f<=100000) (hfo:Sy.binds f=some (ns,vs)) (hdi:Sy.distinct ns=true) (hnl:ns.length<=1000000):COut ((vs++[b]).all C) v w:=by
 obtain ⟨k,n,d,s,o,len,cap,W0,rfl,hW0,⟨i0,i1,i2,i3,i4⟩,il,hk2,HBL,HIT⟩:=zaR hin
 obtain ⟨r,hr⟩:∃r,(vs++[b]).all C=r:=⟨_,rfl⟩
 have HC:=zh (zaT hC hr)
 rw[hr]
 have HFO:=zh (zcp hfo hf hfa)
 have HDI:=zh hdi
 have HNL:=zh hnl
 have HKY:=zh jf
 have HH:=zh hh
 unfold COut
 clear hin hh jf hC hr hf hfa hfo hdi hnl
 go_enter func40,ntmps40
 go_wp2_with (first | (go_at_call 73;refine HIT.out.mono ?_;rintro e' w1 ⟨bb,ob,len1,cap1,kh,nh,dh,sh,oh,lh,ch,rfl,hkh,hsn,⟨e0,e1,e2,e3,e4⟩,hl0,hz,HL1,HR1,HEL,HB1,HBW,HIS⟩;have hkq:(kh != 2)=false:=(by rw[<-hkh,HH.out];rfl);rw[hsn] at HKY;clear hkh hsn;have hn3:((len1:Int) != 3)=false:=(by rw[HL1.out];rfl);have hl2:1<len1:=(by rw[HL1.out];exact Nat.succ_lt_succ (Nat.succ_pos _));have hl3:2<len1:=(by rw[HL1.out];exact Nat.lt_succ_self _);obtain ⟨kf,nf,df,sf,of,lf,cf,HE2⟩:=zaB HR1.out (j:=1) rfl (ob+5) (ob+6) (ob+7) (ob+8) (ob+9) rfl rfl rfl rfl rfl;obtain ⟨kb,nb,db,sb,ob',lb,cb,HE3⟩:=zaB HR1.out (j:=2) rfl (ob+10) (ob+11) (ob+12) (ob+13) (ob+14) rfl rfl rfl rfl rfl) | (go_at_call 20;refine (zap sh true HKY.out _).mono ?_;rintro e' wN ⟨rfl,rfl⟩) | (go_at_call 74;(first | with_reducible refine (HIS.out _ _ _ hi0).mono ?_ | with_reducible refine (HIS.out _ _ _ hi1).mono ?_ | with_reducible refine (HIS.out _ _ _ hi2).mono ?_ | with_reducible refine (HIS.out _ _ _ hi3).mono ?_ | with_reducible refine (HIS.out _ _ _ hi4).mono ?_ | with_reducible refine (HIS.out _ _ _ hi5).mono ?_ | with_reducible refine (HIS.out _ _ _ hi6).mono ?_);rintro e' wN ⟨rfl,hbN⟩;have HBW:=zh (Below.next HBW.out hbN);obtain ⟨e0,e1,e2,e3,e4⟩:=HEL.out _ HBW.out;clear hbN;obtain ⟨f0,f1,f2,f3,f4,fr⟩:=HE2.out _ HBW.out;obtain ⟨g0,g1,g2,g3,g4,gr⟩:=HE3.out _ HBW.out;have HGR:=zh gr;clear gr) | (go_at_call 76;refine (HFO.out _ _ fr).mono ?_;rintro e' wB ⟨vn,oB,lenB,capB,rfl,hg1,hg2,hbB,hlB⟩;obtain ⟨HK,HG⟩:=zbk hg1 hg2 hbB HGR.out;have HG1:=zh hg1;have HBB:=zh hbB;have HLB:=zh hlB;obtain ⟨g0,g1,g2,g3,g4, -⟩:=HE3.out _ (Below.next HBW.out hbB);clear hg1 hg2 hbB hlB fr) | (at_builtin;go_loud (refine zaj rfl fun K hK=>zav (S:=SR (fun _=>False) vn) (.tmp 120) (.tmp 124) rfl wN.heap.size (.slice oB lenB capB) (.slice (some ⟨wB.heap.size,0,none⟩) 1 1) vs [b] rfl HG rfl HK (by have:=HLB.out;simp only[qzN,qzO];omega) fun o7 len7 cap7 w7 h7 h8 h9 h10=>hK _ _ ?_)) | (go_at_call 49;refine (zaM ns vn _ _ ((HG1.out.below (Below.one _ _)).turned h9.out (fun b _ h=>.inr h)).rep.unhide qzL HNL.out).mono ?_;rw[HDI.out];rintro e' w8 ⟨rfl,hb8⟩) | (go_at_call 24;refine (HC.out _ _ ((h7.out.rep.unhide.kept hb8).wider hb8.size)).mono ?_;rintro e' w9 ⟨rfl,hb9⟩) | fail)
 go_ret
 have hb7:=Below.next HB1.out (Below.next HBW.out ((HBB.out.trans ((Below.one wB _).mono HBB.out.size)).trans h8.out))
 exact ⟨rfl,Below.next (Below.next hb7 hb8) hb9⟩
end
section
open Go Go.RowKit
namespace Sy
def expand (f:Nat) (l:List Dat):Option (Option Dat):=
 if l.any (fun x=>!Dat.right x 0 || Dat.marked x)=true then some none
 else match body (expr f) (lam f) l 0 with
  | none=>none
  | some none=>some none
  | some (some (y,_))=>if Dat.right y 0=true then some (some y) else some none
end Sy
def zeroD:Value:=.agg #[.int .i64 0,.int .i64 0,.int .i64 0,.string ⟨#[]⟩,.slice none 0 0]
def ExpPost (r:Option Dat) (w:World) (e:Ending) (w':World):Prop:=Below w.heap.size w w'∧match r with
 | some y=>∃v,e=.returned (.tuple #[v,.int .i64 0])∧RepD w' w'.heap.size y v
 | none=>e=.returned (.tuple #[zeroD,.int .i64 3])
def ExS (w:World) (bx c:Nat):Prop:=c=w.heap.size∨c=w.heap.size+1∨c=bx
theorem zdd (l:List Dat) (sl:Value) (w:World) (hv:RepS w w.heap.size l sl) (ha:l.any (fun x=>!Dat.right x 0 || Dat.marked x)=true) :
  Calls prog 10 #[sl] w (ExpPost none w):=by
 obtain ⟨W0,hW0⟩:∃W0,(w.alloc (.cells #[.int .i64 0,.int .i64 0,.int .i64 0,.string ⟨#[]⟩,.slice none 0 0] 26)).alloc (.cells #[.int .i64 0] 27)=W0:=⟨_,rfl⟩
 have hbl:Below w.heap.size w W0:=by rw[<-hW0];exact (Below.one w _).trans ((Below.one _ _).mono (by simp))
 have hx0:BoxL W0 w.heap.size 26 [.int .i64 0,.int .i64 0,.int .i64 0,.string ⟨#[]⟩,.slice none 0 0]:=by rw[<-hW0];exact (BoxL.new rfl _ _).alloc _
 have hx1:BoxL W0 (w.heap.size+1) 27 [.int .i64 0]:=by rw[<-hW0];exact BoxL.new (by simp) _ _
 have HBL:=zh hbl
 have HX0:=zh hx0
 have HX1:=zh hx1
 have HC:=zh (zbg 25 #[] (fun x=>!Dat.right x 0 || Dat.marked x) true l sl w.heap.size W0 (RepS.kept (w:=w) hv hbl) hbl.size (fun _ _=>by kernel_rfl) (fun y hy u W hu hbW=>by
  have:=zdn y u w.heap.size W hu (by have:=hbl.size;have:=hbW.size;omega)
  simpa using this) ha)
 obtain ⟨o,len,cap,rfl, -⟩:=hv
 clear hbl hx0 hx1
 go_enter_defers func10,ntmps10
 go_wp2_with (first | (go_at_call 24;refine HC.out.mono ?_;rintro e' w1 ⟨rfl,hb1⟩;have hx2:=HX0.out.keep hb1;have hx3:=HX1.out.keep hb1;have i0:=hx2.cell 0 rfl;have i1:=hx2.cell 1 rfl;have i2:=hx2.cell 2 rfl;have i3:=hx2.cell 3 rfl;have i4:=hx2.cell 4 rfl;have f0:=hx2.free 0;have f1:=hx2.free 1;have f2:=hx2.free 2;have f3:=hx2.free 3;have f4:=hx2.free 4;have j0:=hx3.cell 0 rfl;have g0:=hx3.free 0;have il:=hx2.lt;have jl:=hx3.lt;have HX2:=zh hx2;have HX3:=zh hx3;have HB1:=zh hb1;clear hx2 hx3 hb1))
 have r0:=(((((HX2.out.set 0 (.int .i64 0)).set 1 (.int .i64 0)).set 2 (.int .i64 0)).set 3 (.string ⟨#[]⟩)).set 4 (.slice none 0 0)).other ⟨w.heap.size+1,0,none⟩ (.int .i64 3) (by simp)
 have r1:=(((((HX3.out.other ⟨w.heap.size,0,none⟩ (.int .i64 0) (by simp)).other ⟨w.heap.size,1,none⟩ (.int .i64 0) (by simp)).other ⟨w.heap.size,2,none⟩ (.int .i64 0) (by simp)).other ⟨w.heap.size,3,none⟩ (.string ⟨#[]⟩) (by simp)).other ⟨w.heap.size,4,none⟩ (.slice none 0 0) (by simp)).set 0 (.int .i64 3)
 have e0:=r0.cell 0 rfl
 have e1:=r0.cell 1 rfl
 have e2:=r0.cell 2 rfl
 have e3:=r0.cell 3 rfl
 have e4:=r0.cell 4 rfl
 have k0:=r1.cell 0 rfl
 refine ⟨.tuple #[zeroD,.int .i64 3],by simp[results,results10,go_sem,e0,e1,e2,e3,e4,k0,zeroD],?_⟩
 refine ⟨?_,rfl⟩
 have ht:=(((((Turned.set (S:=fun c=>c=w.heap.size∨c=w.heap.size+1) w1 ⟨w.heap.size,0,none⟩ (.int .i64 0) (.inl rfl)).next (Turned.set _ ⟨w.heap.size,1,none⟩ (.int .i64 0) (.inl rfl))).next (Turned.set _ ⟨w.heap.size,2,none⟩ (.int .i64 0) (.inl rfl))).next (Turned.set _ ⟨w.heap.size,3,none⟩ (.string ⟨#[]⟩) (.inl rfl))).next (Turned.set _ ⟨w.heap.size,4,none⟩ (.slice none 0 0) (.inl rfl))).next (Turned.set _ ⟨w.heap.size+1,0,none⟩ (.int .i64 3) (.inr rfl))
 exact (Below.next HBL.out HB1.out).trans (ht.below (fun q hq=>by omega) (by have:=HBL.out.size;have:=HB1.out.size;omega))
theorem zdk {f:Nat} {l:List Dat} {r:Option (Dat × Nat)} (hr:Sy.body (Sy.expr f) (Sy.lam f) l 0=some r) (hsm:∀y∈l,Sy.small y=true) (hl:l.length<=100000) (sl:Value) (w w1:World) (hv:RepS w w.heap.size l sl) (hV:Env w) (hb:Below w.heap.size w w1) (hz:w.heap.size+2<=w1.heap.size) :
  Calls prog 29 #[.pointer (some ⟨w1.heap.size,0,none⟩),sl] (w1.alloc (.cells #[.int .i64 0] 45)) (XRes (ExS w w1.heap.size) w1.heap.size r (w1.alloc (.cells #[.int .i64 0] 45))):=by
 have hb2:Below w.heap.size w (w1.alloc (.cells #[.int .i64 0] 45)):=hb.trans ((Below.one w1 _).mono hb.size)
 obtain ⟨hE,hL⟩:=zf3 f
 refine zj3 hE hL (ExS w w1.heap.size) w1.heap.size 0 l sl _ r ?_ ?_ (.inr (.inr rfl)) (BoxL.new rfl _ _) (Env.below hV hb2) ?_ hl
 ·unfold Sy.within
  have:(l.all Sy.small&&decide (l.length<=100000))=true:=by simp only[Bool.and_eq_true,List.all_eq_true,decide_eq_true_eq];exact ⟨hsm,hl⟩
  simp only[this,if_true]
  exact hr
 ·intro c hc
  have hs:(w1.alloc (.cells #[.int .i64 0] 45)).heap.size=w1.heap.size+1:=by simp
  unfold ExS at hc
  omega
 ·refine RepS.wider (RepS.mono (fun c o u hc=>?_) hv) hb2.size
  have hlt:=zai hc
  rw[za0 (by unfold ExS;have:=hb.size;omega)]
  exact (hb2.cell (p:=⟨c,o,none⟩) hlt).trans hc
theorem zdl {l:List Dat} (sl:Value) (w W0:World) (hv:RepS w w.heap.size l sl) (ha:l.any (fun x=>!Dat.right x 0 || Dat.marked x)=false) (hbl:Below w.heap.size w W0) :
  Calls prog 24 #[sl,.func (.func 25) #[] #[]] W0 fun e w'=>e=.returned (.bool false)∧Below W0.heap.size W0 w':=
 zbg 25 #[] (fun x=>!Dat.right x 0 || Dat.marked x) false l sl w.heap.size W0 (RepS.kept (w:=w) hv hbl) hbl.size (fun _ _=>by kernel_rfl) (fun y hy u W hu hbW=>by
  have:=zdn y u w.heap.size W hu (by have:=hbl.size;have:=hbW.size;omega)
  simpa using this) ha
theorem zec {f:Nat} (l:List Dat) (sl:Value) (w:World) (hv:RepS w w.heap.size l sl) (hV:Env w) (ha:l.any (fun x=>!Dat.right x 0 || Dat.marked x)=false) (hr:Sy.body (Sy.expr f) (Sy.lam f) l 0=some none) (hsm:∀y∈l,Sy.small y=true) (hl:l.length<=100000) :
  Calls prog 10 #[sl] w (ExpPost none w):=by
 have hmf:∀(fn:Fn) (first cap:Array Value) (w:World),(Instr.makeFunc fn first cap).run prog w=.ok (.func fn first cap) w:=fun _ _ _ _=>rfl
 obtain ⟨W0,hW0⟩:∃W0,(w.alloc (.cells #[.int .i64 0,.int .i64 0,.int .i64 0,.string ⟨#[]⟩,.slice none 0 0] 26)).alloc (.cells #[.int .i64 0] 27)=W0:=⟨_,rfl⟩
 have hbl:Below w.heap.size w W0:=by rw[<-hW0];exact (Below.one w _).trans ((Below.one _ _).mono (by simp))
 have hz0:W0.heap.size=w.heap.size+2:=by rw[<-hW0];simp
 have hx0:BoxL W0 w.heap.size 26 [.int .i64 0,.int .i64 0,.int .i64 0,.string ⟨#[]⟩,.slice none 0 0]:=by rw[<-hW0];exact (BoxL.new rfl _ _).alloc _
 have hx1:BoxL W0 (w.heap.size+1) 27 [.int .i64 0]:=by rw[<-hW0];exact BoxL.new (by simp) _ _
 have HBL:=zh hbl
 have HZ0:=zh hz0
 have HX0:=zh hx0
 have HX1:=zh hx1
 have HC:=zh (zdl sl w W0 hv ha hbl)
 have HBODY:=zh fun (w1:World) (hb1:Below W0.heap.size W0 w1)=>zdk hr hsm hl sl w w1 hv hV (Below.next hbl hb1) (by have:=hb1.size;omega)
 obtain ⟨o,len,cap,rfl, -⟩:=hv
 clear hbl hx0 hx1 hz0 ha hr hsm hl hV
 go_enter_defers func10,ntmps10
 go_wp2_with (first | (go_at_call 24;refine HC.out.mono ?_;rintro e' w1 ⟨rfl,hb1⟩;have HB1:=zh hb1;clear hb1) | (go_at_call 29;refine (HBODY.out w1 HB1.out).mono ?_;rintro e' w2 ⟨rfl,ht2⟩))
 refine leaves_cons (f:=28) (args:=#[.pointer (some ⟨w.heap.size,0,none⟩),.pointer (some ⟨w.heap.size+1,0,none⟩)]) (by simp) (by simp[go_sem]) ?_
 have hz1:=HB1.out.size
 have hz2:=HZ0.out
 have b0:=ht2.box ((HX0.out.keep HB1.out).alloc (.cells #[.int .i64 0] 45)) (show ¬w.heap.size=w1.heap.size from by omega)
 have b1:=ht2.box ((HX1.out.keep HB1.out).alloc (.cells #[.int .i64 0] 45)) (show ¬w.heap.size+1=w1.heap.size from by omega)
 refine (zcv _ _ _ _ _ _ _ _ _ b0 b1).mono ?_
 rintro e u' w3 ⟨rfl,rfl,r0,r1,ht3⟩
 have e0:=r0.cell 0 rfl
 have e1:=r0.cell 1 rfl
 have e2:=r0.cell 2 rfl
 have e3:=r0.cell 3 rfl
 have e4:=r0.cell 4 rfl
 have k0:=r1.cell 0 rfl
 simp[Leaves,settle,results,results10,go_sem,e0,e1,e2,e3,e4,k0]
 refine ⟨?_,rfl⟩
 have hbA:=Below.next HBL.out HB1.out
 exact ((hbA.trans ((Below.one w1 _).mono hbA.size)).trans (ht2.below (fun q hq=>by have:=hbA.size;omega) (by have:=hbA.size;simp;omega))).trans (ht3.below (fun q hq=>by omega) (by have:=hbA.size;have:=ht2.size;simp at this;omega))
theorem zf5 {f:Nat} (l:List Dat) (sl:Value) (w:World) (hv:RepS w w.heap.size l sl) (hV:Env w) (ha:l.any (fun x=>!Dat.right x 0 || Dat.marked x)=false) (y:Dat) (n:Nat) (hr:Sy.body (Sy.expr f) (Sy.lam f) l 0=some (some (y,n))) (hsm:∀y∈l,Sy.small y=true) (hl:l.length<=100000) :
  Calls prog 10 #[sl] w (ExpPost (if Dat.right y 0=true then some y else none) w):=by
 obtain ⟨res,hres⟩:∃res,(if Dat.right y 0=true then some y else none)=res:=⟨_,rfl⟩
 rw[hres]
 have HRES:=zh hres
 clear hres
 have hmf:∀(fn:Fn) (first cap:Array Value) (w:World),(Instr.makeFunc fn first cap).run prog w=.ok (.func fn first cap) w:=fun _ _ _ _=>rfl
 obtain ⟨W0,hW0⟩:∃W0,(w.alloc (.cells #[.int .i64 0,.int .i64 0,.int .i64 0,.string ⟨#[]⟩,.slice none 0 0] 26)).alloc (.cells #[.int .i64 0] 27)=W0:=⟨_,rfl⟩
 have hbl:Below w.heap.size w W0:=by rw[<-hW0];exact (Below.one w _).trans ((Below.one _ _).mono (by simp))
 have hz0:W0.heap.size=w.heap.size+2:=by rw[<-hW0];simp
 have hx0:BoxL W0 w.heap.size 26 [.int .i64 0,.int .i64 0,.int .i64 0,.string ⟨#[]⟩,.slice none 0 0]:=by rw[<-hW0];exact (BoxL.new rfl _ _).alloc _
 have hx1:BoxL W0 (w.heap.size+1) 27 [.int .i64 0]:=by rw[<-hW0];exact BoxL.new (by simp) _ _
 have HBL:=zh hbl
 have HZ0:=zh hz0
 have HX0:=zh hx0
 have HX1:=zh hx1
 have HC:=zh (zdl sl w W0 hv ha hbl)
 have HBODY:=zh fun (w1:World) (hb1:Below W0.heap.size W0 w1)=>zdk hr hsm hl sl w w1 hv hV (Below.next hbl hb1) (by have:=hb1.size;omega)
 obtain ⟨o,len,cap,rfl, -⟩:=hv
 have HV0:=zh hV
 clear hbl hx0 hx1 hz0 ha hr hsm hl hV
 go_enter_defers func10,ntmps10
 go_upto_region 6 with (first | (go_at_call 24;refine HC.out.mono ?_;rintro e' w1 ⟨rfl,hb1⟩;have HB1:=zh hb1;clear hb1) | (go_at_call 29;refine (HBODY.out w1 HB1.out).mono ?_;rintro e' w2 ⟨v,rfl,ji,ht2,hxp⟩;obtain ⟨k9,n9,d9,s9,o9,len9,cap9,rfl⟩:=zae ji.unhide;have hz1:=HB1.out.size;have hz2:=HZ0.out;have b0:=ht2.box ((HX0.out.keep HB1.out).alloc (.cells #[.int .i64 0] 45)) (show ¬w.heap.size=w1.heap.size from by omega);have b1:=ht2.box ((HX1.out.keep HB1.out).alloc (.cells #[.int .i64 0] 45)) (show ¬w.heap.size+1=w1.heap.size from by omega);have i0:=b0.cell 0 rfl;have i1:=b0.cell 1 rfl;have i2:=b0.cell 2 rfl;have i3:=b0.cell 3 rfl;have i4:=b0.cell 4 rfl;have f0:=b0.free 0;have f1:=b0.free 1;have f2:=b0.free 2;have f3:=b0.free 3;have f4:=b0.free 4;have il:=b0.lt;have HREP:=zh ji;have HT2:=zh ht2;have HX2:=zh b0;have HX3:=zh b1;have HZ1:=zh hz1;have HZ2:=zh hz2;clear ji ht2 hxp b0 b1 hz1 hz2))
 have hx4:BoxL (((((w2.setCell ⟨w.heap.size,0,none⟩ (.int .i64 k9)).setCell ⟨w.heap.size,1,none⟩ (.int .i64 n9)).setCell ⟨w.heap.size,2,none⟩ (.int .i64 d9)).setCell ⟨w.heap.size,3,none⟩ (.string s9)).setCell ⟨w.heap.size,4,none⟩ (.slice o9 len9 cap9)) w.heap.size 26 [.int .i64 k9,.int .i64 n9,.int .i64 d9,.string s9,.slice o9 len9 cap9]:=((((HX2.out.set 0 (.int .i64 k9)).set 1 (.int .i64 n9)).set 2 (.int .i64 d9)).set 3 (.string s9)).set 4 (.slice o9 len9 cap9)
 have hx5:BoxL (((((w2.setCell ⟨w.heap.size,0,none⟩ (.int .i64 k9)).setCell ⟨w.heap.size,1,none⟩ (.int .i64 n9)).setCell ⟨w.heap.size,2,none⟩ (.int .i64 d9)).setCell ⟨w.heap.size,3,none⟩ (.string s9)).setCell ⟨w.heap.size,4,none⟩ (.slice o9 len9 cap9)) (w.heap.size+1) 27 [.int .i64 0]:=((((HX3.out.other ⟨w.heap.size,0,none⟩ (.int .i64 k9) (by simp)).other ⟨w.heap.size,1,none⟩ (.int .i64 n9) (by simp)).other ⟨w.heap.size,2,none⟩ (.int .i64 d9) (by simp)).other ⟨w.heap.size,3,none⟩ (.string s9) (by simp)).other ⟨w.heap.size,4,none⟩ (.slice o9 len9 cap9) (by simp)
 have hrep3:RepD (hide (((((w2.setCell ⟨w.heap.size,0,none⟩ (.int .i64 k9)).setCell ⟨w.heap.size,1,none⟩ (.int .i64 n9)).setCell ⟨w.heap.size,2,none⟩ (.int .i64 d9)).setCell ⟨w.heap.size,3,none⟩ (.string s9)).setCell ⟨w.heap.size,4,none⟩ (.slice o9 len9 cap9)) (ExS w w1.heap.size)) (((((w2.setCell ⟨w.heap.size,0,none⟩ (.int .i64 k9)).setCell ⟨w.heap.size,1,none⟩ (.int .i64 n9)).setCell ⟨w.heap.size,2,none⟩ (.int .i64 d9)).setCell ⟨w.heap.size,3,none⟩ (.string s9)).setCell ⟨w.heap.size,4,none⟩ (.slice o9 len9 cap9)).heap.size y (.agg #[.int .i64 k9,.int .i64 n9,.int .i64 d9,.string s9,.slice o9 len9 cap9]):=HREP.out.shown (Shown.five w2 (S:=ExS w w1.heap.size) (B:=w.heap.size) (.inl rfl) (.int .i64 k9) (.int .i64 n9) (.int .i64 d9) (.string s9) (.slice o9 len9 cap9)) (by simp)
 have ht3:Turned (fun c=>c=w.heap.size) w2 (((((w2.setCell ⟨w.heap.size,0,none⟩ (.int .i64 k9)).setCell ⟨w.heap.size,1,none⟩ (.int .i64 n9)).setCell ⟨w.heap.size,2,none⟩ (.int .i64 d9)).setCell ⟨w.heap.size,3,none⟩ (.string s9)).setCell ⟨w.heap.size,4,none⟩ (.slice o9 len9 cap9)):=((((Turned.set (S:=fun c=>c=w.heap.size) w2 ⟨w.heap.size,0,none⟩ (.int .i64 k9) rfl).next (Turned.set _ ⟨w.heap.size,1,none⟩ (.int .i64 n9) rfl)).next (Turned.set _ ⟨w.heap.size,2,none⟩ (.int .i64 d9) rfl)).next (Turned.set _ ⟨w.heap.size,3,none⟩ (.string s9) rfl)).next (Turned.set _ ⟨w.heap.size,4,none⟩ (.slice o9 len9 cap9) rfl)
 clear i0 i1 i2 i3 i4 f0 f1 f2 f3 f4 il
 generalize (((((w2.setCell ⟨w.heap.size,0,none⟩ (.int .i64 k9)).setCell ⟨w.heap.size,1,none⟩ (.int .i64 n9)).setCell ⟨w.heap.size,2,none⟩ (.int .i64 d9)).setCell ⟨w.heap.size,3,none⟩ (.string s9)).setCell ⟨w.heap.size,4,none⟩ (.slice o9 len9 cap9))=W3 at hx4 hx5 hrep3 ht3 ⊢
 have hrt:=zcl y (.agg #[.int .i64 k9,.int .i64 n9,.int .i64 d9,.string s9,.slice o9 len9 cap9]) W3.heap.size W3 hrep3.unhide qzL
 have hbA:=Below.next HBL.out HB1.out
 have hbB:Below w.heap.size w W3:=((hbA.trans ((Below.one w1 _).mono hbA.size)).trans (HT2.out.below (fun q hq=>by have:=hbA.size;omega) (by have:=hbA.size;simp;omega))).trans (ht3.below (fun q hq=>by omega) (by have:=hbA.size;have:=HT2.out.size;simp at this;omega))
 have b0:=hx4
 have b1:=hx5
 have i0:=b0.cell 0 rfl
 have i1:=b0.cell 1 rfl
 have i2:=b0.cell 2 rfl
 have i3:=b0.cell 3 rfl
 have i4:=b0.cell 4 rfl
 have f0:=b0.free 0
 have f1:=b0.free 1
 have f2:=b0.free 2
 have f3:=b0.free 3
 have f4:=b0.free 4
 have il:=b0.lt
 have j0:=b1.cell 0 rfl
 have g0:=b1.free 0
 have jl:=b1.lt
 have HX4:=zh hx4
 have HX5:=zh hx5
 have HR3:=zh hrep3
 have HBB:=zh hbB
 clear hx4 hx5 hrep3 ht3 hbA hbB b0 b1
 cases hri:Dat.right y 0 with
 | false=>
  rw[hri] at hrt
  obtain rfl:res=none:=by rw[<-HRES.out,hri];rfl
  have HRT:=zh hrt
  clear hrt hri
  go_wp2_with (first | (go_at_call 26;refine HRT.out.mono ?_;rintro e' w4 ⟨rfl,hb4⟩) | (go_at_call 30;refine (zaf _).mono ?_;rintro e' w5 ⟨rfl,rfl⟩))
  refine leaves_cons (f:=28) (args:=#[.pointer (some ⟨w.heap.size,0,none⟩),.pointer (some ⟨w.heap.size+1,0,none⟩)]) (by simp) (by simp[go_sem]) ?_
  refine (zcv _ _ _ _ _ _ _ _ _ (HX4.out.keep hb4) (HX5.out.keep hb4)).mono ?_
  rintro e u' w6 ⟨rfl,rfl,r0,r1,ht3⟩
  have e0:=r0.cell 0 rfl
  have e1:=r0.cell 1 rfl
  have e2:=r0.cell 2 rfl
  have e3:=r0.cell 3 rfl
  have e4:=r0.cell 4 rfl
  have k0:=r1.cell 0 rfl
  simp[Leaves,settle,results,results10,go_sem,e0,e1,e2,e3,e4,k0]
  refine ⟨?_,rfl⟩
  have hbC:=Below.next HBB.out hb4
  exact hbC.trans (ht3.below (fun q hq=>by omega) hbC.size)
 | true=>
  rw[hri] at hrt
  obtain rfl:res=some y:=by rw[<-HRES.out,hri];rfl
  have HRT:=zh hrt
  clear hrt hri
  go_wp2_with (first | (go_at_call 26;refine HRT.out.mono ?_;rintro e' w4 ⟨rfl,hb4⟩;have b0:=HX4.out.keep hb4;have b1:=HX5.out.keep hb4;clear i0 i1 i2 i3 i4 f0 f1 f2 f3 f4 il j0 g0 jl;have i0:=b0.cell 0 rfl;have i1:=b0.cell 1 rfl;have i2:=b0.cell 2 rfl;have i3:=b0.cell 3 rfl;have i4:=b0.cell 4 rfl;have f0:=b0.free 0;have f1:=b0.free 1;have f2:=b0.free 2;have f3:=b0.free 3;have f4:=b0.free 4;have il:=b0.lt;have j0:=b1.cell 0 rfl;have g0:=b1.free 0;have jl:=b1.lt;have HB4:=zh hb4;have HX6:=zh b0;have HX7:=zh b1;clear b0 b1 hb4) | (go_at_call 30;refine (zah _).mono ?_;rintro e' w5 ⟨⟨nv,rfl⟩,rfl⟩))
  refine leaves_cons (f:=28) (args:=#[.pointer (some ⟨w.heap.size,0,none⟩),.pointer (some ⟨w.heap.size+1,0,none⟩)]) (by simp) (by simp[go_sem]) ?_
  refine (zfq _ _ _).mono ?_
  rintro e u' w6 ⟨rfl,rfl,rfl⟩
  have r0:=(((((HX6.out.set 0 (.int .i64 k9)).set 1 (.int .i64 n9)).set 2 (.int .i64 d9)).set 3 (.string s9)).set 4 (.slice o9 len9 cap9)).other ⟨w.heap.size+1,0,none⟩ (.int .i64 0) (by simp)
  have r1:=(((((HX7.out.other ⟨w.heap.size,0,none⟩ (.int .i64 k9) (by simp)).other ⟨w.heap.size,1,none⟩ (.int .i64 n9) (by simp)).other ⟨w.heap.size,2,none⟩ (.int .i64 d9) (by simp)).other ⟨w.heap.size,3,none⟩ (.string s9) (by simp)).other ⟨w.heap.size,4,none⟩ (.slice o9 len9 cap9) (by simp)).set 0 (.int .i64 0)
  have e0:=r0.cell 0 rfl
  have e1:=r0.cell 1 rfl
  have e2:=r0.cell 2 rfl
  have e3:=r0.cell 3 rfl
  have e4:=r0.cell 4 rfl
  have k0:=r1.cell 0 rfl
  simp[Leaves,settle,results,results10,go_sem,e0,e1,e2,e3,e4,k0]
  have ht:=(((((Turned.set (S:=fun c=>c=w.heap.size∨c=w.heap.size+1) w5 ⟨w.heap.size,0,none⟩ (.int .i64 k9) (.inl rfl)).next (Turned.set _ ⟨w.heap.size,1,none⟩ (.int .i64 n9) (.inl rfl))).next (Turned.set _ ⟨w.heap.size,2,none⟩ (.int .i64 d9) (.inl rfl))).next (Turned.set _ ⟨w.heap.size,3,none⟩ (.string s9) (.inl rfl))).next (Turned.set _ ⟨w.heap.size,4,none⟩ (.slice o9 len9 cap9) (.inl rfl))).next (Turned.set _ ⟨w.heap.size+1,0,none⟩ (.int .i64 0) (.inr rfl))
  have hbC:=Below.next HBB.out HB4.out
  refine ⟨hbC.trans (ht.below (fun q hq=>by omega) hbC.size),_,rfl,?_⟩
  exact ((HR3.out.shown (Shown.below HB4.out) HB4.out.size).shown (Shown.turned (S:=ExS w w1.heap.size) ht fun b _ hb=>hb.elim .inl fun h=>.inr (.inl h)) ht.size).unhide
theorem zgA {f:Nat} (l:List Dat) (sl:Value) (w:World) (hv:RepS w w.heap.size l sl) (hV:Env w) (res:Option Dat) (hr:Sy.expand f l=some res) (hsm:∀y∈l,Sy.small y=true) (hl:l.length<=100000) :
  Calls prog 10 #[sl] w (ExpPost res w):=by
 unfold Sy.expand at hr
 split at hr
 ·rename_i ha
  cases hr
  exact zdd l sl w hv ha
 ·rename_i ha
  have ha2:l.any (fun x=>!Dat.right x 0 || Dat.marked x)=false:=by simpa only[Bool.not_eq_true] using ha
  split at hr
  ·cases hr
  ·rename_i hb
   cases hr
   exact zec l sl w hv hV ha2 hb hsm hl
  ·rename_i y n hb
   have:=zf5 l sl w hv hV ha2 y n hb hsm hl
   split at hr
   ·rename_i hri
    cases hr
    rwa[if_pos hri] at this
   ·rename_i hri
    cases hr
    rwa[if_neg hri] at this
end
section
open Go Go.RowKit
theorem zfj {_C:Dat->Bool} {x:Dat} {h:Dat} {t:List Dat} {v:Value} {w:World} (hin:CIn x h (t) v w) (hh:h.kind=2) (hs:h.s=⟨#[108,101,116,114,101,99]⟩) (hn:t.length≠2):ROut false v w:=by
 obtain ⟨k,n,d,s,o,len,cap,W0,rfl,hW0,⟨i0,i1,i2,i3,i4⟩,il,hk2,HBL,HIT⟩:=zaG hin
 have HN:=zh hn
 have HKY:=zh (show Sy.keyword ⟨#[108,101,116,114,101,99]⟩=true from by decide +kernel)
 have HS:=zh hs
 have HH:=zh hh
 unfold ROut
 clear hin hh hs hn
 go_enter func41,ntmps41
 go_wp2_with (first | (go_at_call 55;refine HIT.out.mono ?_;rintro e' w1 ⟨bb,ob,len1,cap1,kh,nh,dh,sh,oh,lh,ch,rfl,hkh,hsn,⟨e0,e1,e2,e3,e4⟩,hl0,hz,HL1,HR1,HB1,hlb⟩;have hkq:(kh==2)=true:=(by rw[<-hkh,HH.out];rfl);rw[HS.out] at hsn;subst hsn;clear hkh;have hn3:((len1:Int) != 3)=true:=bne_iff_ne.2 (by have:=HN.out;have:=HL1.out;rw[qzN] at this;omega)) | (go_at_call 21;refine (zao _ true HKY.out _).mono ?_;rintro e' wN ⟨rfl,rfl⟩) | fail)
 go_ret
 exact ⟨rfl,HB1.out⟩
theorem zfi {_C:Dat->Bool} {x:Dat} {h:Dat} {f b:Dat} {v:Value} {w:World} (hin:CIn x h ([f,b]) v w) (hh:h.kind=2) (hs:h.s=⟨#[108,101,116,114,101,99]⟩) (hf:Dat.shaped f=true) (hfa:Dat.all f<=100000) (hfo:Sy.binds f=none):ROut false v w:=by
 obtain ⟨k,n,d,s,o,len,cap,W0,rfl,hW0,⟨i0,i1,i2,i3,i4⟩,il,hk2,HBL,HIT⟩:=zaG hin
 have HFO:=zh (zeC hfo hf hfa)
 have HKY:=zh (show Sy.keyword ⟨#[108,101,116,114,101,99]⟩=true from by decide +kernel)
 have HS:=zh hs
 have HH:=zh hh
 unfold ROut
 clear hin hh hs hf hfa hfo
 go_enter func41,ntmps41
 go_wp2_with (first | (go_at_call 55;refine HIT.out.mono ?_;rintro e' w1 ⟨bb,ob,len1,cap1,kh,nh,dh,sh,oh,lh,ch,rfl,hkh,hsn,⟨e0,e1,e2,e3,e4⟩,hl0,hz,HL1,HR1,HB1,hlb⟩;have hkq:(kh==2)=true:=(by rw[<-hkh,HH.out];rfl);rw[HS.out] at hsn;subst hsn;clear hkh;have hn3:((len1:Int) != 3)=false:=(by rw[HL1.out];rfl);have hl2:1<len1:=(by have:=HL1.out;simp only[qzN,qzO] at this;omega);have hl3:2<len1:=(by have:=HL1.out;simp only[qzN,qzO] at this;omega);obtain ⟨kf,nf,df,sf,of,lf,cf,HE2⟩:=zaB HR1.out (j:=1) rfl (ob+5) (ob+6) (ob+7) (ob+8) (ob+9) rfl rfl rfl rfl rfl;obtain ⟨f0,f1,f2,f3,f4,fr⟩:=HE2.out _ qzB;have HFR:=zh fr;clear fr;obtain ⟨kb,nb,db,sb,ob',lb,cb,HE3⟩:=zaB HR1.out (j:=2) rfl (ob+10) (ob+11) (ob+12) (ob+13) (ob+14) rfl rfl rfl rfl rfl;obtain ⟨g0,g1,g2,g3,g4,gr⟩:=HE3.out _ qzB;have HGR:=zh gr;clear gr) | (go_at_call 21;refine (zao _ true HKY.out _).mono ?_;rintro e' wN ⟨rfl,rfl⟩) | (go_at_call 79;refine (HFO.out _ _ HFR.out).mono ?_;rintro e' wB ⟨ln,lv,vn,oB,lenB,capB,rfl, -, -,hbB, -⟩) | fail)
 go_ret
 exact ⟨rfl,Below.next HB1.out hbB⟩
theorem zfu {_C:Dat->Bool} {x:Dat} {h:Dat} {f b:Dat} {ns vs:List Dat} {v:Value} {w:World} (hin:CIn x h ([f,b]) v w) (hh:h.kind=2) (hs:h.s=⟨#[108,101,116,114,101,99]⟩) (hf:Dat.shaped f=true) (hfa:Dat.all f<=100000) (hfo:Sy.binds f=some (ns,vs)) (hdi:Sy.distinct ns=false) (hnl:ns.length<=1000000):ROut false v w:=by
 obtain ⟨k,n,d,s,o,len,cap,W0,rfl,hW0,⟨i0,i1,i2,i3,i4⟩,il,hk2,HBL,HIT⟩:=zaG hin
 have HFO:=zh (zcq hfo hf hfa)
 have HDI:=zh hdi
 have HNL:=zh hnl
 have HKY:=zh (show Sy.keyword ⟨#[108,101,116,114,101,99]⟩=true from by decide +kernel)
 have HS:=zh hs
 have HH:=zh hh
 unfold ROut
 clear hin hh hs hf hfa hfo hdi hnl
 go_enter func41,ntmps41
 go_wp2_with (first | (go_at_call 55;refine HIT.out.mono ?_;rintro e' w1 ⟨bb,ob,len1,cap1,kh,nh,dh,sh,oh,lh,ch,rfl,hkh,hsn,⟨e0,e1,e2,e3,e4⟩,hl0,hz,HL1,HR1,HB1,hlb⟩;have hkq:(kh==2)=true:=(by rw[<-hkh,HH.out];rfl);rw[HS.out] at hsn;subst hsn;clear hkh;have hn3:((len1:Int) != 3)=false:=(by rw[HL1.out];rfl);have hl2:1<len1:=(by have:=HL1.out;simp only[qzN,qzO] at this;omega);have hl3:2<len1:=(by have:=HL1.out;simp only[qzN,qzO] at this;omega);obtain ⟨kf,nf,df,sf,of,lf,cf,HE2⟩:=zaB HR1.out (j:=1) rfl (ob+5) (ob+6) (ob+7) (ob+8) (ob+9) rfl rfl rfl rfl rfl;obtain ⟨f0,f1,f2,f3,f4,fr⟩:=HE2.out _ qzB;have HFR:=zh fr;clear fr;obtain ⟨kb,nb,db,sb,ob',lb,cb,HE3⟩:=zaB HR1.out (j:=2) rfl (ob+10) (ob+11) (ob+12) (ob+13) (ob+14) rfl rfl rfl rfl rfl;obtain ⟨g0,g1,g2,g3,g4,gr⟩:=HE3.out _ qzB;have HGR:=zh gr;clear gr) | (go_at_call 21;refine (zao _ true HKY.out _).mono ?_;rintro e' wN ⟨rfl,rfl⟩) | (go_at_call 79;refine (HFO.out _ _ HFR.out).mono ?_;rintro e' wB ⟨vn,oB,lenB,capB,rfl,hg1,hg2,hbB,hlB⟩;have HG1:=zh hg1;have HG2:=zh hg2;have HBB:=zh hbB;have HLB:=zh hlB;clear hg1 hg2 hbB hlB g0 g1 g2 g3 g4) | (go_at_call 61;refine (zbb ns vn _ _ HG1.out.rep.unhide qzL HNL.out).mono ?_;rw[HDI.out];rintro e' w8 ⟨rfl,hb8⟩) | fail)
 go_ret
 exact ⟨rfl,Below.next (Below.next HB1.out HBB.out) hb8⟩
theorem zfh {C:Dat->Bool} {x:Dat} {h:Dat} {f b:Dat} {ns vs:List Dat} {v:Value} {w:World} (hin:CIn x h ([f,b]) v w) (hh:h.kind=2) (hs:h.s=⟨#[108,101,116,114,101,99]⟩) (hC:∀c∈(vs++[b]).drop 0,RCoreAt C c) (hf:Dat.shaped f=true) (hfa:Dat.all f<=100000) (hfo:Sy.binds f=some (ns,vs)) (hdi:Sy.distinct ns=true) (hnl:ns.length<=1000000):ROut ((vs++[b]).all C) v w:=by
 obtain ⟨k,n,d,s,o,len,cap,W0,rfl,hW0,⟨i0,i1,i2,i3,i4⟩,il,hk2,HBL,HIT⟩:=zaG hin
 obtain ⟨r,hr⟩:∃r,(vs++[b]).all C=r:=⟨_,rfl⟩
 have HRR:=zh (show ((vs++[b]).drop 0).all C=r from hr)
 rw[hr]
 have HFO:=zh (zcq hfo hf hfa)
 have HDI:=zh hdi
 have HNL:=zh hnl
 have HKY:=zh (show Sy.keyword ⟨#[108,101,116,114,101,99]⟩=true from by decide +kernel)
 have HS:=zh hs
 have HH:=zh hh
 unfold ROut
 clear hin hh hs hr hf hfa hfo hdi hnl
 go_enter func41,ntmps41
 go_upto_region 34 with (first | (go_at_call 55;refine HIT.out.mono ?_;rintro e' w1 ⟨bb,ob,len1,cap1,kh,nh,dh,sh,oh,lh,ch,rfl,hkh,hsn,⟨e0,e1,e2,e3,e4⟩,hl0,hz,HL1,HR1,HB1,hlb⟩;have hkq:(kh==2)=true:=(by rw[<-hkh,HH.out];rfl);rw[HS.out] at hsn;subst hsn;clear hkh;have hn3:((len1:Int) != 3)=false:=(by rw[HL1.out];rfl);have hl2:1<len1:=(by have:=HL1.out;simp only[qzN,qzO] at this;omega);have hl3:2<len1:=(by have:=HL1.out;simp only[qzN,qzO] at this;omega);obtain ⟨kf,nf,df,sf,of,lf,cf,HE2⟩:=zaB HR1.out (j:=1) rfl (ob+5) (ob+6) (ob+7) (ob+8) (ob+9) rfl rfl rfl rfl rfl;obtain ⟨f0,f1,f2,f3,f4,fr⟩:=HE2.out _ qzB;have HFR:=zh fr;clear fr;obtain ⟨kb,nb,db,sb,ob',lb,cb,HE3⟩:=zaB HR1.out (j:=2) rfl (ob+10) (ob+11) (ob+12) (ob+13) (ob+14) rfl rfl rfl rfl rfl;obtain ⟨g0,g1,g2,g3,g4,gr⟩:=HE3.out _ qzB;have HGR:=zh gr;clear gr) | (go_at_call 21;refine (zao _ true HKY.out _).mono ?_;rintro e' wN ⟨rfl,rfl⟩) | (go_at_call 79;refine (HFO.out _ _ HFR.out).mono ?_;rintro e' wB ⟨vn,oB,lenB,capB,rfl,hg1,hg2,hbB,hlB⟩;have HG1:=zh hg1;have HG2:=zh hg2;have HBB:=zh hbB;have HLB:=zh hlB;clear hg1 hg2 hbB hlB g0 g1 g2 g3 g4) | (go_at_call 61;refine (zbb ns vn _ _ HG1.out.rep.unhide qzL HNL.out).mono ?_;rw[HDI.out];rintro e' w8 ⟨rfl,hb8⟩;have hb9:=Below.next HBB.out hb8;obtain ⟨HK,HG⟩:=zbk (HG1.out.below hb8) (HG2.out.below hb8) hb9 HGR.out;have HB9:=zh hb9;obtain ⟨g0,g1,g2,g3,g4, -⟩:=HE3.out _ hb9;clear hb8 hb9) | (at_builtin;go_loud (refine zaj rfl fun K hK=>zav (S:=SR (fun _=>False) vn) (.tmp 100) (.tmp 104) rfl wN.heap.size (.slice oB lenB capB) (.slice (some ⟨w8.heap.size,0,none⟩) 1 1) vs [b] rfl HG rfl HK (by have:=HLB.out;simp only[qzN,qzO];omega) fun o7 len7 cap7 w7 h7 h8 h9 h10=>hK _ _ ?_)) | fail)
 have HREP:=zh h7.out.rep.unhide
 have HLEN:=zh (zbd HREP.out).1
 have hlb7:len7<=100001:=by have:=HLEN.out;have:=HLB.out;simp only[List.length_append,qzN,qzO] at *;omega
 have hb7:=Below.next HB1.out ((HB9.out.trans ((Below.one w8 _).mono HB9.out.size)).trans h8.out)
 have HBL2:=zh (hb7)
 have hkl:0<=len7:=by rw[HLEN.out];simp
 go_wp2_with fail
 go_loopg [4,10] len7 (fun g qv iv wr=>∃(i:Nat) (q:Bool),iv=.int .i64 i∧qv=.bool q∧g=len7+0-i∧0<=i∧i<=len7∧Hid ((((vs++[b]).take i).drop 0).all C=q)∧Hid (Below w7.heap.size w7 wr))
 case atStart=>exact ⟨0,true,rfl,rfl,by omega,qzL,hkl,zh (by simp),zh qzB⟩
 case round=>
  obtain ⟨i,q,rfl,rfl,rfl,hi,hi2,HQ,HBR⟩:=hrel
  cases q with
  | false=>
   have HF:=zh (show r=false from by rw[<-HRR.out];exact zdj HQ.out)
   go_wp2_with fail
   go_ret
   exact ⟨by rw[HF.out];rfl,Below.next HBL2.out HBR.out⟩
  | true=>
   by_cases hlt:i<len7
   ·have hd:decide ((i:Int)<(len7:Int))=true:=by simp;omega
    obtain ⟨z9,hy⟩:∃z9,(vs++[b])[i]?=some z9:=⟨_,List.getElem?_eq_getElem (by rw[<-HLEN.out];exact hlt)⟩
    obtain ⟨b1,off1,ky,ny,dy,sy,oy,lny,cpy,he, -, -, -,hel⟩:=zbm HREP.out qzL hy
    subst he
    obtain ⟨e0,e1,e2,e3,e4,er⟩:=hel wr HBR.out
    have HRC:=zh (hC z9 (zbH hi hy) _ _ wr er qzL)
    have HST:=zh (zbJ (C:=C) hi hy)
    rw[HQ.out,Bool.true_and] at HST
    clear hy hel er
    generalize C z9=cy at HRC HST
    go_wp2_with (first | (go_at_call 41;refine HRC.out.mono ?_;rintro e' w8 ⟨rfl,hb8⟩) | fail)
    go_roundg (len7+0-(i+1))
    case measure=>omega
    case rel=>exact ⟨i+1,cy,by go_num,rfl,rfl,by omega,by omega,HST,zh (Below.next HBR.out hb8)⟩
   ·have hd:decide ((i:Int)<(len7:Int))=false:=by simp;omega
    have HF:=zh (show r=true from by rw[<-HRR.out];exact zb9 (by rw[<-HLEN.out];exact hlt) HQ.out)
    go_wp2_with fail
    go_ret
    exact ⟨by rw[HF.out];rfl,Below.next HBL2.out HBR.out⟩
theorem zel {_C:Dat->Bool} {x:Dat} {h:Dat} {t:List Dat} {v:Value} {w:World} (hin:CIn x h (t) v w) (hh:h.kind=2) (hs:h.s=⟨#[108,101,116,114,101,99,42]⟩) (hn:t.length≠2):ROut false v w:=by
 obtain ⟨k,n,d,s,o,len,cap,W0,rfl,hW0,⟨i0,i1,i2,i3,i4⟩,il,hk2,HBL,HIT⟩:=zaG hin
 have HN:=zh hn
 have HKY:=zh (show Sy.keyword ⟨#[108,101,116,114,101,99,42]⟩=true from by decide +kernel)
 have HS:=zh hs
 have HH:=zh hh
 unfold ROut
 clear hin hh hs hn
 go_enter func41,ntmps41
 go_wp2_with (first | (go_at_call 55;refine HIT.out.mono ?_;rintro e' w1 ⟨bb,ob,len1,cap1,kh,nh,dh,sh,oh,lh,ch,rfl,hkh,hsn,⟨e0,e1,e2,e3,e4⟩,hl0,hz,HL1,HR1,HB1,hlb⟩;have hkq:(kh==2)=true:=(by rw[<-hkh,HH.out];rfl);rw[HS.out] at hsn;subst hsn;clear hkh;have hn3:((len1:Int) != 3)=true:=bne_iff_ne.2 (by have:=HN.out;have:=HL1.out;rw[qzN] at this;omega)) | (go_at_call 21;refine (zao _ true HKY.out _).mono ?_;rintro e' wN ⟨rfl,rfl⟩) | fail)
 go_ret
 exact ⟨rfl,HB1.out⟩
theorem zer {_C:Dat->Bool} {x:Dat} {h:Dat} {f b:Dat} {v:Value} {w:World} (hin:CIn x h ([f,b]) v w) (hh:h.kind=2) (hs:h.s=⟨#[108,101,116,114,101,99,42]⟩) (hf:Dat.shaped f=true) (hfa:Dat.all f<=100000) (hfo:Sy.binds f=none):ROut false v w:=by
 obtain ⟨k,n,d,s,o,len,cap,W0,rfl,hW0,⟨i0,i1,i2,i3,i4⟩,il,hk2,HBL,HIT⟩:=zaG hin
 have HFO:=zh (zeC hfo hf hfa)
 have HKY:=zh (show Sy.keyword ⟨#[108,101,116,114,101,99,42]⟩=true from by decide +kernel)
 have HS:=zh hs
 have HH:=zh hh
 unfold ROut
 clear hin hh hs hf hfa hfo
 go_enter func41,ntmps41
 go_wp2_with (first | (go_at_call 55;refine HIT.out.mono ?_;rintro e' w1 ⟨bb,ob,len1,cap1,kh,nh,dh,sh,oh,lh,ch,rfl,hkh,hsn,⟨e0,e1,e2,e3,e4⟩,hl0,hz,HL1,HR1,HB1,hlb⟩;have hkq:(kh==2)=true:=(by rw[<-hkh,HH.out];rfl);rw[HS.out] at hsn;subst hsn;clear hkh;have hn3:((len1:Int) != 3)=false:=(by rw[HL1.out];rfl);have hl2:1<len1:=(by have:=HL1.out;simp only[qzN,qzO] at this;omega);have hl3:2<len1:=(by have:=HL1.out;simp only[qzN,qzO] at this;omega);obtain ⟨kf,nf,df,sf,of,lf,cf,HE2⟩:=zaB HR1.out (j:=1) rfl (ob+5) (ob+6) (ob+7) (ob+8) (ob+9) rfl rfl rfl rfl rfl;obtain ⟨f0,f1,f2,f3,f4,fr⟩:=HE2.out _ qzB;have HFR:=zh fr;clear fr;obtain ⟨kb,nb,db,sb,ob',lb,cb,HE3⟩:=zaB HR1.out (j:=2) rfl (ob+10) (ob+11) (ob+12) (ob+13) (ob+14) rfl rfl rfl rfl rfl;obtain ⟨g0,g1,g2,g3,g4,gr⟩:=HE3.out _ qzB;have HGR:=zh gr;clear gr) | (go_at_call 21;refine (zao _ true HKY.out _).mono ?_;rintro e' wN ⟨rfl,rfl⟩) | (go_at_call 79;refine (HFO.out _ _ HFR.out).mono ?_;rintro e' wB ⟨ln,lv,vn,oB,lenB,capB,rfl, -, -,hbB, -⟩) | fail)
 go_ret
 exact ⟨rfl,Below.next HB1.out hbB⟩
theorem zet {_C:Dat->Bool} {x:Dat} {h:Dat} {f b:Dat} {ns vs:List Dat} {v:Value} {w:World} (hin:CIn x h ([f,b]) v w) (hh:h.kind=2) (hs:h.s=⟨#[108,101,116,114,101,99,42]⟩) (hf:Dat.shaped f=true) (hfa:Dat.all f<=100000) (hfo:Sy.binds f=some (ns,vs)) (hdi:Sy.distinct ns=false) (hnl:ns.length<=1000000):ROut false v w:=by
 obtain ⟨k,n,d,s,o,len,cap,W0,rfl,hW0,⟨i0,i1,i2,i3,i4⟩,il,hk2,HBL,HIT⟩:=zaG hin
 have HFO:=zh (zcq hfo hf hfa)
 have HDI:=zh hdi
 have HNL:=zh hnl
 have HKY:=zh (show Sy.keyword ⟨#[108,101,116,114,101,99,42]⟩=true from by decide +kernel)
 have HS:=zh hs
 have HH:=zh hh
 unfold ROut
 clear hin hh hs hf hfa hfo hdi hnl
 go_enter func41,ntmps41
 go_wp2_with (first | (go_at_call 55;refine HIT.out.mono ?_;rintro e' w1 ⟨bb,ob,len1,cap1,kh,nh,dh,sh,oh,lh,ch,rfl,hkh,hsn,⟨e0,e1,e2,e3,e4⟩,hl0,hz,HL1,HR1,HB1,hlb⟩;have hkq:(kh==2)=true:=(by rw[<-hkh,HH.out];rfl);rw[HS.out] at hsn;subst hsn;clear hkh;have hn3:((len1:Int) != 3)=false:=(by rw[HL1.out];rfl);have hl2:1<len1:=(by have:=HL1.out;simp only[qzN,qzO] at this;omega);have hl3:2<len1:=(by have:=HL1.out;simp only[qzN,qzO] at this;omega);obtain ⟨kf,nf,df,sf,of,lf,cf,HE2⟩:=zaB HR1.out (j:=1) rfl (ob+5) (ob+6) (ob+7) (ob+8) (ob+9) rfl rfl rfl rfl rfl;obtain ⟨f0,f1,f2,f3,f4,fr⟩:=HE2.out _ qzB;have HFR:=zh fr;clear fr;obtain ⟨kb,nb,db,sb,ob',lb,cb,HE3⟩:=zaB HR1.out (j:=2) rfl (ob+10) (ob+11) (ob+12) (ob+13) (ob+14) rfl rfl rfl rfl rfl;obtain ⟨g0,g1,g2,g3,g4,gr⟩:=HE3.out _ qzB;have HGR:=zh gr;clear gr) | (go_at_call 21;refine (zao _ true HKY.out _).mono ?_;rintro e' wN ⟨rfl,rfl⟩) | (go_at_call 79;refine (HFO.out _ _ HFR.out).mono ?_;rintro e' wB ⟨vn,oB,lenB,capB,rfl,hg1,hg2,hbB,hlB⟩;have HG1:=zh hg1;have HG2:=zh hg2;have HBB:=zh hbB;have HLB:=zh hlB;clear hg1 hg2 hbB hlB g0 g1 g2 g3 g4) | (go_at_call 61;refine (zbb ns vn _ _ HG1.out.rep.unhide qzL HNL.out).mono ?_;rw[HDI.out];rintro e' w8 ⟨rfl,hb8⟩) | fail)
 go_ret
 exact ⟨rfl,Below.next (Below.next HB1.out HBB.out) hb8⟩
theorem zex {C:Dat->Bool} {x:Dat} {h:Dat} {f b:Dat} {ns vs:List Dat} {v:Value} {w:World} (hin:CIn x h ([f,b]) v w) (hh:h.kind=2) (hs:h.s=⟨#[108,101,116,114,101,99,42]⟩) (hC:∀c∈(vs++[b]).drop 0,RCoreAt C c) (hf:Dat.shaped f=true) (hfa:Dat.all f<=100000) (hfo:Sy.binds f=some (ns,vs)) (hdi:Sy.distinct ns=true) (hnl:ns.length<=1000000):ROut ((vs++[b]).all C) v w:=by
 obtain ⟨k,n,d,s,o,len,cap,W0,rfl,hW0,⟨i0,i1,i2,i3,i4⟩,il,hk2,HBL,HIT⟩:=zaG hin
 obtain ⟨r,hr⟩:∃r,(vs++[b]).all C=r:=⟨_,rfl⟩
 have HRR:=zh (show ((vs++[b]).drop 0).all C=r from hr)
 rw[hr]
 have HFO:=zh (zcq hfo hf hfa)
 have HDI:=zh hdi
 have HNL:=zh hnl
 have HKY:=zh (show Sy.keyword ⟨#[108,101,116,114,101,99,42]⟩=true from by decide +kernel)
 have HS:=zh hs
 have HH:=zh hh
 unfold ROut
 clear hin hh hs hr hf hfa hfo hdi hnl
 go_enter func41,ntmps41
 go_upto_region 34 with (first | (go_at_call 55;refine HIT.out.mono ?_;rintro e' w1 ⟨bb,ob,len1,cap1,kh,nh,dh,sh,oh,lh,ch,rfl,hkh,hsn,⟨e0,e1,e2,e3,e4⟩,hl0,hz,HL1,HR1,HB1,hlb⟩;have hkq:(kh==2)=true:=(by rw[<-hkh,HH.out];rfl);rw[HS.out] at hsn;subst hsn;clear hkh;have hn3:((len1:Int) != 3)=false:=(by rw[HL1.out];rfl);have hl2:1<len1:=(by have:=HL1.out;simp only[qzN,qzO] at this;omega);have hl3:2<len1:=(by have:=HL1.out;simp only[qzN,qzO] at this;omega);obtain ⟨kf,nf,df,sf,of,lf,cf,HE2⟩:=zaB HR1.out (j:=1) rfl (ob+5) (ob+6) (ob+7) (ob+8) (ob+9) rfl rfl rfl rfl rfl;obtain ⟨f0,f1,f2,f3,f4,fr⟩:=HE2.out _ qzB;have HFR:=zh fr;clear fr;obtain ⟨kb,nb,db,sb,ob',lb,cb,HE3⟩:=zaB HR1.out (j:=2) rfl (ob+10) (ob+11) (ob+12) (ob+13) (ob+14) rfl rfl rfl rfl rfl;obtain ⟨g0,g1,g2,g3,g4,gr⟩:=HE3.out _ qzB;have HGR:=zh gr;clear gr) | (go_at_call 21;refine (zao _ true HKY.out _).mono ?_;rintro e' wN ⟨rfl,rfl⟩) | (go_at_call 79;refine (HFO.out _ _ HFR.out).mono ?_;rintro e' wB ⟨vn,oB,lenB,capB,rfl,hg1,hg2,hbB,hlB⟩;have HG1:=zh hg1;have HG2:=zh hg2;have HBB:=zh hbB;have HLB:=zh hlB;clear hg1 hg2 hbB hlB g0 g1 g2 g3 g4) | (go_at_call 61;refine (zbb ns vn _ _ HG1.out.rep.unhide qzL HNL.out).mono ?_;rw[HDI.out];rintro e' w8 ⟨rfl,hb8⟩;have hb9:=Below.next HBB.out hb8;obtain ⟨HK,HG⟩:=zbk (HG1.out.below hb8) (HG2.out.below hb8) hb9 HGR.out;have HB9:=zh hb9;obtain ⟨g0,g1,g2,g3,g4, -⟩:=HE3.out _ hb9;clear hb8 hb9) | (at_builtin;go_loud (refine zaj rfl fun K hK=>zav (S:=SR (fun _=>False) vn) (.tmp 100) (.tmp 104) rfl wN.heap.size (.slice oB lenB capB) (.slice (some ⟨w8.heap.size,0,none⟩) 1 1) vs [b] rfl HG rfl HK (by have:=HLB.out;simp only[qzN,qzO];omega) fun o7 len7 cap7 w7 h7 h8 h9 h10=>hK _ _ ?_)) | fail)
 have HREP:=zh h7.out.rep.unhide
 have HLEN:=zh (zbd HREP.out).1
 have hlb7:len7<=100001:=by have:=HLEN.out;have:=HLB.out;simp only[List.length_append,qzN,qzO] at *;omega
 have hb7:=Below.next HB1.out ((HB9.out.trans ((Below.one w8 _).mono HB9.out.size)).trans h8.out)
 have HBL2:=zh (hb7)
 have hkl:0<=len7:=by rw[HLEN.out];simp
 go_wp2_with fail
 go_loopg [4,10] len7 (fun g qv iv wr=>∃(i:Nat) (q:Bool),iv=.int .i64 i∧qv=.bool q∧g=len7+0-i∧0<=i∧i<=len7∧Hid ((((vs++[b]).take i).drop 0).all C=q)∧Hid (Below w7.heap.size w7 wr))
 case atStart=>exact ⟨0,true,rfl,rfl,by omega,qzL,hkl,zh (by simp),zh qzB⟩
 case round=>
  obtain ⟨i,q,rfl,rfl,rfl,hi,hi2,HQ,HBR⟩:=hrel
  cases q with
  | false=>
   have HF:=zh (show r=false from by rw[<-HRR.out];exact zdj HQ.out)
   go_wp2_with fail
   go_ret
   exact ⟨by rw[HF.out];rfl,Below.next HBL2.out HBR.out⟩
  | true=>
   by_cases hlt:i<len7
   ·have hd:decide ((i:Int)<(len7:Int))=true:=by simp;omega
    obtain ⟨z9,hy⟩:∃z9,(vs++[b])[i]?=some z9:=⟨_,List.getElem?_eq_getElem (by rw[<-HLEN.out];exact hlt)⟩
    obtain ⟨b1,off1,ky,ny,dy,sy,oy,lny,cpy,he, -, -, -,hel⟩:=zbm HREP.out qzL hy
    subst he
    obtain ⟨e0,e1,e2,e3,e4,er⟩:=hel wr HBR.out
    have HRC:=zh (hC z9 (zbH hi hy) _ _ wr er qzL)
    have HST:=zh (zbJ (C:=C) hi hy)
    rw[HQ.out,Bool.true_and] at HST
    clear hy hel er
    generalize C z9=cy at HRC HST
    go_wp2_with (first | (go_at_call 41;refine HRC.out.mono ?_;rintro e' w8 ⟨rfl,hb8⟩) | fail)
    go_roundg (len7+0-(i+1))
    case measure=>omega
    case rel=>exact ⟨i+1,cy,by go_num,rfl,rfl,by omega,by omega,HST,zh (Below.next HBR.out hb8)⟩
   ·have hd:decide ((i:Int)<(len7:Int))=false:=by simp;omega
    have HF:=zh (show r=true from by rw[<-HRR.out];exact zb9 (by rw[<-HLEN.out];exact hlt) HQ.out)
    go_wp2_with fail
    go_ret
    exact ⟨by rw[HF.out];rfl,Below.next HBL2.out HBR.out⟩
end
section
open Go Go.RowKit
namespace Dat
theorem right_tidy (x:Dat):∀deep,right x deep=true->tidy x=true:=by
 induction x using Dat.ind with
 | h k n d s l ih=>
  intro deep h
  simp only[right,Bool.and_eq_true] at h
  obtain ⟨_,hh,hl⟩:=h
  simp only[tidy,Bool.and_eq_true]
  refine ⟨?_,?_,zcN.2 fun y hy=>ih y hy _ ((zc9 _ _).1 hl y hy)⟩
  ·by_cases hk:k=6
   ·subst hk
    simp[head] at hh
    simp[hh]
   ·simp[hk]
  ·by_cases hk:k=2
   ·subst hk
    simp[head] at hh
    simp[hh]
   ·simp[hk]
end Dat
namespace Sy
open Dat
def exp (l:List Dat):Option Dat:=(expand 100000 l).getD none
theorem exp_some {l:List Dat} (hw:wt l<=100000):expand 100000 l=some (exp l)∧∀y,exp l=some y->Dat.right y 0=true∧Dat.all y<=60*wt l+15∧(∀x∈l,Dat.right x 0=true∧Dat.marked x=false)∧∃n,body (expr 100000) (lam 100000) l 0=some (some (y,n)):=by
 have key:∃o,expand 100000 l=some o∧∀y,o=some y->Dat.right y 0=true∧Dat.all y<=60*wt l+15∧(∀x∈l,Dat.right x 0=true∧Dat.marked x=false)∧∃n,body (expr 100000) (lam 100000) l 0=some (some (y,n)):=by
  unfold expand
  split
  ·exact ⟨none,rfl,fun y h=>by cases h⟩
  ·rename_i ha
   have hal:∀x∈l,Dat.right x 0=true∧Dat.marked x=false:=fun x hx=>by
    have:(!Dat.right x 0 || Dat.marked x)=false:=by
     cases hq:(!Dat.right x 0 || Dat.marked x) with
     | false=>rfl
     | true=>exact absurd (List.any_eq_true.2 ⟨x,hx,hq⟩) ha
    simpa using this
   obtain ⟨hE,hL⟩:=zfR 100000
   obtain ⟨o,h1,h2⟩:=zdU hE hL l (fun y hy=>Dat.right_tidy y 0 (hal y hy).1) (by omega) 0 (by omega)
   rw[h1]
   match o,h2 with
   | none,_=>exact ⟨none,rfl,fun y h=>by cases h⟩
   | some (y,n),h2=>
    have h3:=h2 y n rfl
    by_cases hr:Dat.right y 0=true
    ·refine ⟨some y,by simp only[hr,if_true],fun z hz=>?_⟩
     cases hz
     exact ⟨hr,h3.2,hal,n,rfl⟩
    ·exact ⟨none,by simp only[hr];rfl,fun z hz=>by cases hz⟩
 obtain ⟨o,h1,h2⟩:=key
 have h3:exp l=o:=by unfold exp;rw[h1];rfl
 exact ⟨by rw[h3,h1],fun y hy=>h2 y (by rw[<-h3];exact hy)⟩
theorem exp_bad {l:List Dat} (ha:l.any (fun x=>!Dat.right x 0 || Dat.marked x)=true):exp l=none:=by
 unfold exp expand
 rw[if_pos ha]
 rfl
end Sy
theorem zk4 (l:List Dat) (sl:Value) (w:World) (hv:RepS w w.heap.size l sl) (hV:Env w) (hw:Sy.wt l<=100000) :
  Calls prog 10 #[sl] w (ExpPost (Sy.exp l) w):=by
 by_cases ha:l.any (fun x=>!Dat.right x 0 || Dat.marked x)=true
 ·rw[Sy.exp_bad ha]
  exact zdd l sl w hv ha
 ·refine zgA l sl w hv hV _ (Sy.exp_some hw).1 (fun y hy=>?_) (by have:=Sy.wt_len l;omega)
  have:(!Dat.right y 0 || Dat.marked y)=false:=by
   cases hq:(!Dat.right y 0 || Dat.marked y) with
   | false=>rfl
   | true=>exact absurd (List.any_eq_true.2 ⟨y,hy,hq⟩) ha
  have hr:Dat.right y 0=true:=by simp at this;exact this.1
  exact Sy.small_iff.2 ⟨Dat.tidy_shaped y (Dat.right_tidy y 0 hr),by have:=Sy.wt_mem hy;omega⟩
end
end Go.Proofs.YtnbjhmafnigefaaGreatDoor
