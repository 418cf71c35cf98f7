/- .. -/
import Derived.Test.YtdcajmeeeoofgaaGreatDoorFmbA18
open Go.Proofs.Tryz
set_option maxRecDepth 100000
set_option maxHeartbeats 16000000
namespace Go.Proofs.YtdcajmeeeoofgaaGreatDoor
section
open Go Go.RowKit
def mod14:Mdl:=⟨[datOne],[⟨[0],false,.mk 10 0 [] [.mk 1 0 [] [],.mk 0 0 [] []]⟩],.mk 21 0 [] []⟩
def unit14:Unt:=⟨[datOne],[⟨1,false,3,[⟨0,2,0,0,[]⟩,⟨9,1,0,0,[0,2]⟩,⟨22,0,1,0,[]⟩],[]⟩,⟨0,false,1,[⟨5,0,0,0,[]⟩,⟨22,0,0,0,[]⟩],[]⟩]⟩
theorem mkunit14:mod14.unit Mk.lkL=unit14:=by rfl
theorem mok14:mod14.okB=true:=by decide +kernel
theorem uok14:unit14.okB=true:=by decide +kernel
theorem mfew14:mod14.fewB 300=true:=by decide +kernel
theorem err14:mod14.makeErr Mk.lkL=0:=by rw[Mdl.makeErr,mkunit14,mok14,uok14];rfl
theorem makeU14:mod14.makeU Mk.lkL=unit14:=by rw[Mdl.makeU,mkunit14,mok14,uok14];rfl
theorem no14:(⟨[],[]⟩:Unt).err=5:=by rfl
theorem zh4 (w:World) (B:Nat):TrmS w B [] (.slice none 0 0):=⟨none,0,0,rfl,rfl,by omega,by omega,rfl,rfl⟩
theorem zdS {w:World} {B:Nat} (o n:Int) (ho:-9223372036854775808≤o∧o≤9223372036854775807) (hn:-9223372036854775808≤n∧n≤9223372036854775807):TrmR w B (.mk o n [] []) [.int .i64 o,.int .i64 n,.slice none 0 0,.slice none 0 0]:=
 zas.2 ⟨_,_,rfl,ho,hn,zfu w B,zh4 w B⟩
theorem zeR (w:World):Calls prog 4 #[] w fun e w'=>e=.returned (.bool true)∧Below w.heap.size w w':=by
 go_enter func4,ntmps4
 go_upto_region 2 with fail
 obtain ⟨W,hW⟩:∃W,((((w.alloc (.cells #[.int .i64 0,.int .i64 1,.int .i64 1,.string ⟨#[]⟩,.slice none 0 0] 41)).alloc (.cells #[.int .i64 0] 3)).alloc (.cells #[.int .i64 1,.int .i64 0,.slice none 0 0,.slice none 0 0,.int .i64 0,.int .i64 0,.slice none 0 0,.slice none 0 0] 27)).alloc (.cells #[.slice (some ⟨w.heap.size+1,0,none⟩) 1 1,.bool false,.int .i64 10,.int .i64 0,.slice none 0 0,.slice (some ⟨w.heap.size+1+1,0,none⟩) 2 2] 43)).alloc (.cells #[.slice (some ⟨w.heap.size,0,none⟩) 1 1,.slice (some ⟨w.heap.size+1+1+1,0,none⟩) 1 1,.int .i64 21,.int .i64 0,.slice none 0 0,.slice none 0 0] 29)=W:=⟨_,rfl⟩
 have HX:=zh (show BoxL W (w.heap.size+1+1+1+1) 29 [.slice (some ⟨w.heap.size,0,none⟩) 1 1,.slice (some ⟨w.heap.size+1+1+1,0,none⟩) 1 1,.int .i64 21,.int .i64 0,.slice none 0 0,.slice none 0 0] from by rw[←hW];exact BoxL.new (by simp) _ _)
 have HM:=zh (show MdlR W W.heap.size mod14 (.agg #[.slice (some ⟨w.heap.size,0,none⟩) 1 1,.slice (some ⟨w.heap.size+1+1+1,0,none⟩) 1 1,.int .i64 21,.int .i64 0,.slice none 0 0,.slice none 0 0]) from by
  have h0:BoxL W w.heap.size 41 [.int .i64 0,.int .i64 1,.int .i64 1,.string ⟨#[]⟩,.slice none 0 0]:=by rw[←hW];exact ((((BoxL.new rfl _ _).alloc _).alloc _).alloc _).alloc _
  have h1:BoxL W (w.heap.size+1) 3 [.int .i64 0]:=by rw[←hW];exact (((BoxL.new (by simp) _ _).alloc _).alloc _).alloc _
  have h2:BoxL W (w.heap.size+1+1) 27 [.int .i64 1,.int .i64 0,.slice none 0 0,.slice none 0 0,.int .i64 0,.int .i64 0,.slice none 0 0,.slice none 0 0]:=by rw[←hW];exact ((BoxL.new (by simp) _ _).alloc _).alloc _
  have h3:BoxL W (w.heap.size+1+1+1) 43 [.slice (some ⟨w.heap.size+1,0,none⟩) 1 1,.bool false,.int .i64 10,.int .i64 0,.slice none 0 0,.slice (some ⟨w.heap.size+1+1,0,none⟩) 2 2]:=by rw[←hW];exact (BoxL.new (by simp) _ _).alloc _
  have hv:SlC W W.heap.size 1 IntR [0] (.slice (some ⟨w.heap.size+1,0,none⟩) 1 1):=zce h1 h1.lt ⟨[.int .i64 0],[],rfl,rfl,⟨rfl,by decide⟩,rfl⟩ rfl (by omega)
  have ht:TrmS W W.heap.size [.mk 1 0 [] [],.mk 0 0 [] []] (.slice (some ⟨w.heap.size+1+1,0,none⟩) 2 2):=zce h2 h2.lt ⟨[.int .i64 1,.int .i64 0,.slice none 0 0,.slice none 0 0],_,rfl,rfl,zdS 1 0 (by decide) (by decide),[.int .i64 0,.int .i64 0,.slice none 0 0,.slice none 0 0],[],rfl,rfl,zdS 0 0 (by decide) (by decide),rfl⟩ rfl (by omega)
  have hb:TrmR W W.heap.size (.mk 10 0 [] [.mk 1 0 [] [],.mk 0 0 [] []]) [.int .i64 10,.int .i64 0,.slice none 0 0,.slice (some ⟨w.heap.size+1+1,0,none⟩) 2 2]:=zas.2 ⟨_,_,rfl,by decide,by decide,zfu _ _,ht⟩
  refine ⟨_,_,_,_,_,_,rfl,zir rfl (by omega) h0 ⟨_,_,_,_,_,[],rfl,zjx 0 1 1 ⟨#[]⟩ (by omega) (by omega) (by omega) (by decide),rfl⟩,?_,zdS 21 0 (by decide) (by decide)⟩
  exact zce h3 h3.lt ⟨[.slice (some ⟨w.heap.size+1,0,none⟩) 1 1,.bool false,.int .i64 10,.int .i64 0,.slice none 0 0,.slice (some ⟨w.heap.size+1+1,0,none⟩) 2 2],[],rfl,rfl,⟨_,_,_,_,_,rfl,hv,hb⟩,rfl⟩ rfl (by omega))
 have HWB:=zh (show Below w.heap.size w W from by
  rw[←hW]
  exact ((((Below.one w _).trans ((Below.one _ _).mono (by simp))).trans ((Below.one _ _).mono (by simp;omega))).trans ((Below.one _ _).mono (by simp;omega))).trans ((Below.one _ _).mono (by simp;omega)))
 rw[hW]
 have HC:=zh (zfr mod14 _ W.heap.size W HM.out (Nat.le_refl _) 300 (by omega) mfew14)
 rw[err14,makeU14] at HC
 have m0:=HX.out.cell 0 rfl
 have m1:=HX.out.cell 1 rfl
 have m2:=HX.out.cell 2 rfl
 have m3:=HX.out.cell 3 rfl
 have m4:=HX.out.cell 4 rfl
 have m5:=HX.out.cell 5 rfl
 have ml:=HX.out.lt
 clear hW
 go_wp2_with fail
 with_reducible refine HC.out.mono ?_
 rintro e w1 ⟨cv,pv,rfl,hu,hb1⟩
 obtain ⟨cv',pv',he,hcv,hpv⟩:=hu
 simp only[Value.agg.injEq,Array.mk.injEq,List.cons.injEq,and_true] at he
 obtain ⟨rfl,rfl⟩:=he
 obtain ⟨o0,l0,c0,rfl,hx0⟩:=hcv
 clear hx0
 obtain ⟨o1,l1,c1,rfl⟩:=hpv.form
 obtain rfl:l1=2:=hpv.lens.1
 obtain ⟨b1,off1,cs,ho1,hb1B,hcl,hcell,sl0,al0,rfl,_,_,hsl,hal⟩:=hpv.at (Below.refl _ _) (j:=0) rfl
 subst ho1
 obtain ⟨o2,l2,c2,rfl⟩:=hsl.form
 obtain rfl:l2=3:=hsl.lens.1
 obtain ⟨b2,off2,cs,ho2,hb2B,hcl2,hcell2,sl1,rfl,_,_,_,_,hsl1⟩:=hsl.at (Below.refl _ _) (j:=1) rfl
 subst ho2
 obtain ⟨b3,off3,cs,ho3,hb3B,hcl3,hcell3,sl2,rfl,_,_,_,_,hsl2⟩:=hsl.at (Below.refl _ _) (j:=2) rfl
 simp only[Option.some.injEq,Addr.mk.injEq,and_true] at ho3
 obtain ⟨rfl,rfl⟩:=ho3
 have e3:=hcell 3 _ rfl
 have f2:=hcell2 1 _ rfl
 have g2:=hcell3 2 _ rfl
 dsimp only at f2 g2
 rw[Nat.zero_mul,Nat.add_zero] at e3
 have hl3:=zac e3
 have hl4:=zac f2
 have HBE:=zh (Below.next HWB.out hb1)
 have hc1:=hpv.lens.2
 have hc2:=hsl.lens.2
 obtain ⟨W2,hW2⟩:∃W2,w1.alloc (.cells #[.slice o0 l0 c0,.slice (some ⟨b1,off1,none⟩) 2 c1] 34)=W2:=⟨_,rfl⟩
 have HCK:=zh (zdh ⟨[],[]⟩ (.agg #[.slice none 0 0,.slice none 0 0]) W2.heap.size W2 ⟨_,_,rfl,⟨none,0,0,rfl,rfl,by omega,by omega,rfl,rfl⟩,⟨none,0,0,rfl,rfl,by omega,by omega,rfl,rfl⟩⟩ (Nat.le_refl _))
 rw[no14] at HCK
 have HW2:=zh hW2
 have HB2:=zh (show Below w1.heap.size w1 W2 from by rw[←hW2];exact Below.one w1 _)
 have HU:=zh (show BoxL W2 w1.heap.size 34 [.slice o0 l0 c0,.slice (some ⟨b1,off1,none⟩) 2 c1] from by rw[←hW2];exact BoxL.new rfl _ _)
 have E3:=zh ((HB2.out.cell hl3).trans e3)
 have F2:=zh ((HB2.out.cell hl4).trans f2)
 have G2:=zh ((HB2.out.cell (zac g2)).trans g2)
 clear hpv hcell hcell2 hcell3 hsl hal hsl1 hsl2 hcl hcl2 hcl3 hb1 HC m0 m1 m2 m3 m4 m5 ml e3 f2 g2 hW2
 go_upto_region 3 with fail
 rw[HW2.out]
 have e3:=E3.out
 have f2:=F2.out
 have g2:=G2.out
 have u1:=HU.out.cell 1 rfl
 have ul:=HU.out.lt
 go_wp2_with fail
 with_reducible refine HCK.out.mono ?_
 rintro e w3 ⟨rfl,hb3⟩
 have HBF:=zh (Below.next HBE.out (Below.next HB2.out hb3))
 clear hb3 e3 f2 g2 u1 ul
 go_wp2_with fail
 go_ret
 exact ⟨rfl,HBF.out⟩
end
section
open Go Go.RowKit Mk
theorem zaB (W:World) (B base mb:Nat) (K:KV) (X:Nat→Prop) (s:MSt) (op n:Int) (v:List Int) (t:List Trm) (c0 c1 c2 c3:Value) (hv:TrmR W B (.mk op n v t) [c0,c1,c2,c3]) (hm:ZkIn W B base mb K X s) (W1:World) (hW1:W.alloc (.cells #[c0,c1,c2,c3] 27)=W1) :
  ∃ov lv cvv ot lt ct,c0=.int .i64 op∧c1=.int .i64 n∧c2=.slice ov lv cvv∧c3=.slice ot lt ct∧I64 n∧Hid (BoxL W1 W.heap.size 27 [c0,c1,c2,c3])∧Hid (ZkIn W1 B base mb K X s)∧Hid (TrmS W1 B t (.slice ot lt ct))∧Hid (TrmR W1 B (.mk op n v t) [c0,c1,c2,c3])∧Hid (Below W.heap.size W W1)∧lt=t.length∧lv=v.length:=by
 have HB1:Below W.heap.size W W1:=by rw[←hW1];exact Below.one W _
 have hv1:TrmR W1 B (.mk op n v t) [c0,c1,c2,c3]:=TrmR.kept (HB1.mono hm.size) _ _ hv
 obtain ⟨vs,ts,he,_,hn,hvs,hts⟩:=zas.1 hv
 simp only[List.cons.injEq,and_true] at he
 obtain ⟨rfl,rfl,rfl,rfl⟩:=he
 obtain ⟨ov,lv,cvv,rfl⟩:=hvs.form
 obtain ⟨ot,lt,ct,rfl⟩:=hts.form
 have hT:TrmS W1 B t (.slice ot lt ct):=TrmS.kept hts (HB1.mono hm.size)
 exact ⟨ov,lv,cvv,ot,lt,ct,rfl,rfl,rfl,rfl,hn,zh (by rw[←hW1];exact BoxL.new rfl _ _),zh (hm.keep HB1),zh hT,zh hv1,zh HB1,(SlC.lens hT).1,hvs.lens.1⟩
theorem zlX (n:Int) (v:List Int) (t:List Trm) (c0 c1 c2 c3:Value) (B base mb:Nat) (K:KV) (X:Nat→Prop) (s:MSt) (d:Int) (W:World)
  (hv:TrmR W B (.mk 0 n v t) [c0,c1,c2,c3]) (hm:ZkIn W B base mb K X s) (hroom:Room s 1) (hd:0≤d∧d≤1900000) :
  Calls prog 39 #[.pointer (some ⟨mb,0,none⟩),.agg #[c0,c1,c2,c3],.int .i64 d,.bool false] W fun r w'=>r=.returned (.tuple #[])∧∃K',ZkGo B base mb K K' X (s.put ⟨0,d,n,0,[]⟩) W w':=by
 obtain ⟨W1,hW1⟩:∃W1,W.alloc (.cells #[c0,c1,c2,c3] 27)=W1:=⟨_,rfl⟩
 have hsz:=hm.size
 obtain ⟨ov,lv,cvv,ot,lt,ct,rfl,rfl,rfl,rfl,hn,HBX,HM,HT,HV1,HB1,hlt,hlv⟩:=zaB W B base mb K X s _ n v t _ _ _ _ hv hm W1 hW1
 have HW:=zh hW1
 have HN:=zh hn
 have e0:=HBX.out.cell 0 rfl
 have e1:=HBX.out.cell 1 rfl
 have e2:=HBX.out.cell 2 rfl
 have e3:=HBX.out.cell 3 rfl
 have el:=HBX.out.lt
 have hcode:s.code.length≤1000000:=by have:=hroom.1;omega
 have hdi:I64 d:=⟨by omega,by omega⟩
 clear hv hm hW1 hlt hlv hn hroom
 go_enter func39,ntmps39
 go_upto_region 1 with fail
 rw[HW.out]
 have HL:=zh (zal 0 d n 0 [] none 0 0 W1 HM.out hcode (by constructor<;>omega) hdi HN.out (by constructor<;>omega) (IntsM.nil _ _))
 go_wp2_with fail
 with_reducible refine HL.out.mono ?_
 rintro r w3 ⟨rfl,K3,hg3⟩
 have HG9:=zh (((ZkGo.refl HM.out).next hg3).before HB1.out hsz)
 clear hg3 HL e0 e1 e2 e3 el
 go_wp2_with fail
 first | go_end0 | (refine bodyPost_ret (results_none rfl _ _ _) rfl ?_) | fail
 exact ⟨rfl,_,HG9.out⟩
theorem zjX (n:Int) (v:List Int) (t:List Trm) (c0 c1 c2 c3:Value) (B base mb:Nat) (K:KV) (X:Nat→Prop) (s:MSt) (d:Int) (W:World)
  (hv:TrmR W B (.mk 11 n v t) [c0,c1,c2,c3]) (hm:ZkIn W B base mb K X s) (hroom:Room s 1) (hd:0≤d∧d≤1900000) :
  Calls prog 39 #[.pointer (some ⟨mb,0,none⟩),.agg #[c0,c1,c2,c3],.int .i64 d,.bool false] W fun r w'=>r=.returned (.tuple #[])∧∃K',ZkGo B base mb K K' X (s.put ⟨2,d,n,0,[]⟩) W w':=by
 obtain ⟨W1,hW1⟩:∃W1,W.alloc (.cells #[c0,c1,c2,c3] 27)=W1:=⟨_,rfl⟩
 have hsz:=hm.size
 obtain ⟨ov,lv,cvv,ot,lt,ct,rfl,rfl,rfl,rfl,hn,HBX,HM,HT,HV1,HB1,hlt,hlv⟩:=zaB W B base mb K X s _ n v t _ _ _ _ hv hm W1 hW1
 have HW:=zh hW1
 have HN:=zh hn
 have e0:=HBX.out.cell 0 rfl
 have e1:=HBX.out.cell 1 rfl
 have e2:=HBX.out.cell 2 rfl
 have e3:=HBX.out.cell 3 rfl
 have el:=HBX.out.lt
 have hcode:s.code.length≤1000000:=by have:=hroom.1;omega
 have hdi:I64 d:=⟨by omega,by omega⟩
 clear hv hm hW1 hlt hlv hn hroom
 go_enter func39,ntmps39
 go_upto_region 1 with fail
 rw[HW.out]
 have HL:=zh (zal 2 d n 0 [] none 0 0 W1 HM.out hcode (by constructor<;>omega) hdi HN.out (by constructor<;>omega) (IntsM.nil _ _))
 go_wp2_with fail
 with_reducible refine HL.out.mono ?_
 rintro r w3 ⟨rfl,K3,hg3⟩
 have HG9:=zh (((ZkGo.refl HM.out).next hg3).before HB1.out hsz)
 clear hg3 HL e0 e1 e2 e3 el
 go_wp2_with fail
 first | go_end0 | (refine bodyPost_ret (results_none rfl _ _ _) rfl ?_) | fail
 exact ⟨rfl,_,HG9.out⟩
theorem zjK (n:Int) (v:List Int) (t:List Trm) (c0 c1 c2 c3:Value) (B base mb:Nat) (K:KV) (X:Nat→Prop) (s:MSt) (d:Int) (W:World)
  (hv:TrmR W B (.mk 13 n v t) [c0,c1,c2,c3]) (hm:ZkIn W B base mb K X s) (hroom:Room s 1) (hd:0≤d∧d≤1900000) :
  Calls prog 39 #[.pointer (some ⟨mb,0,none⟩),.agg #[c0,c1,c2,c3],.int .i64 d,.bool false] W fun r w'=>r=.returned (.tuple #[])∧∃K',ZkGo B base mb K K' X (s.put ⟨3,d,0,0,[]⟩) W w':=by
 obtain ⟨W1,hW1⟩:∃W1,W.alloc (.cells #[c0,c1,c2,c3] 27)=W1:=⟨_,rfl⟩
 have hsz:=hm.size
 obtain ⟨ov,lv,cvv,ot,lt,ct,rfl,rfl,rfl,rfl,hn,HBX,HM,HT,HV1,HB1,hlt,hlv⟩:=zaB W B base mb K X s _ n v t _ _ _ _ hv hm W1 hW1
 have HW:=zh hW1
 have HN:=zh hn
 have e0:=HBX.out.cell 0 rfl
 have e1:=HBX.out.cell 1 rfl
 have e2:=HBX.out.cell 2 rfl
 have e3:=HBX.out.cell 3 rfl
 have el:=HBX.out.lt
 have hcode:s.code.length≤1000000:=by have:=hroom.1;omega
 have hdi:I64 d:=⟨by omega,by omega⟩
 clear hv hm hW1 hlt hlv hn hroom
 go_enter func39,ntmps39
 go_upto_region 1 with fail
 rw[HW.out]
 have HL:=zh (zal 3 d 0 0 [] none 0 0 W1 HM.out hcode (by constructor<;>omega) hdi (by constructor<;>omega) (by constructor<;>omega) (IntsM.nil _ _))
 go_wp2_with fail
 with_reducible refine HL.out.mono ?_
 rintro r w3 ⟨rfl,K3,hg3⟩
 have HG9:=zh (((ZkGo.refl HM.out).next hg3).before HB1.out hsz)
 clear hg3 HL e0 e1 e2 e3 el
 go_wp2_with fail
 first | go_end0 | (refine bodyPost_ret (results_none rfl _ _ _) rfl ?_) | fail
 exact ⟨rfl,_,HG9.out⟩
theorem zjg (n:Int) (v:List Int) (t:List Trm) (c0 c1 c2 c3:Value) (B base mb:Nat) (K:KV) (X:Nat→Prop) (s:MSt) (d:Int) (W:World)
  (hv:TrmR W B (.mk 21 n v t) [c0,c1,c2,c3]) (hm:ZkIn W B base mb K X s) (hroom:Room s 1) (hd:0≤d∧d≤1900000) :
  Calls prog 39 #[.pointer (some ⟨mb,0,none⟩),.agg #[c0,c1,c2,c3],.int .i64 d,.bool false] W fun r w'=>r=.returned (.tuple #[])∧∃K',ZkGo B base mb K K' X (s.put ⟨5,d,n,0,[]⟩) W w':=by
 obtain ⟨W1,hW1⟩:∃W1,W.alloc (.cells #[c0,c1,c2,c3] 27)=W1:=⟨_,rfl⟩
 have hsz:=hm.size
 obtain ⟨ov,lv,cvv,ot,lt,ct,rfl,rfl,rfl,rfl,hn,HBX,HM,HT,HV1,HB1,hlt,hlv⟩:=zaB W B base mb K X s _ n v t _ _ _ _ hv hm W1 hW1
 have HW:=zh hW1
 have HN:=zh hn
 have e0:=HBX.out.cell 0 rfl
 have e1:=HBX.out.cell 1 rfl
 have e2:=HBX.out.cell 2 rfl
 have e3:=HBX.out.cell 3 rfl
 have el:=HBX.out.lt
 have hcode:s.code.length≤1000000:=by have:=hroom.1;omega
 have hdi:I64 d:=⟨by omega,by omega⟩
 clear hv hm hW1 hlt hlv hn hroom
 go_enter func39,ntmps39
 go_upto_region 1 with fail
 rw[HW.out]
 have HL:=zh (zal 5 d n 0 [] none 0 0 W1 HM.out hcode (by constructor<;>omega) hdi HN.out (by constructor<;>omega) (IntsM.nil _ _))
 go_wp2_with fail
 with_reducible refine HL.out.mono ?_
 rintro r w3 ⟨rfl,K3,hg3⟩
 have HG9:=zh (((ZkGo.refl HM.out).next hg3).before HB1.out hsz)
 clear hg3 HL e0 e1 e2 e3 el
 go_wp2_with fail
 first | go_end0 | (refine bodyPost_ret (results_none rfl _ _ _) rfl ?_) | fail
 exact ⟨rfl,_,HG9.out⟩
theorem zjA (n:Int) (v:List Int) (t:List Trm) (c0 c1 c2 c3:Value) (B base mb:Nat) (K:KV) (X:Nat→Prop) (s:MSt) (d:Int) (W:World)
  (hv:TrmR W B (.mk 20 n v t) [c0,c1,c2,c3]) (hm:ZkIn W B base mb K X s) (hroom:Room s 1) (hd:0≤d∧d≤1900000) :
  Calls prog 39 #[.pointer (some ⟨mb,0,none⟩),.agg #[c0,c1,c2,c3],.int .i64 d,.bool false] W fun r w'=>r=.returned (.tuple #[])∧∃K',ZkGo B base mb K K' X (s.put ⟨6,d,n,0,[]⟩) W w':=by
 obtain ⟨W1,hW1⟩:∃W1,W.alloc (.cells #[c0,c1,c2,c3] 27)=W1:=⟨_,rfl⟩
 have hsz:=hm.size
 obtain ⟨ov,lv,cvv,ot,lt,ct,rfl,rfl,rfl,rfl,hn,HBX,HM,HT,HV1,HB1,hlt,hlv⟩:=zaB W B base mb K X s _ n v t _ _ _ _ hv hm W1 hW1
 have HW:=zh hW1
 have HN:=zh hn
 have e0:=HBX.out.cell 0 rfl
 have e1:=HBX.out.cell 1 rfl
 have e2:=HBX.out.cell 2 rfl
 have e3:=HBX.out.cell 3 rfl
 have el:=HBX.out.lt
 have hcode:s.code.length≤1000000:=by have:=hroom.1;omega
 have hdi:I64 d:=⟨by omega,by omega⟩
 clear hv hm hW1 hlt hlv hn hroom
 go_enter func39,ntmps39
 go_upto_region 1 with fail
 rw[HW.out]
 have HL:=zh (zal 6 d n 0 [] none 0 0 W1 HM.out hcode (by constructor<;>omega) hdi HN.out (by constructor<;>omega) (IntsM.nil _ _))
 go_wp2_with fail
 with_reducible refine HL.out.mono ?_
 rintro r w3 ⟨rfl,K3,hg3⟩
 have HG9:=zh (((ZkGo.refl HM.out).next hg3).before HB1.out hsz)
 clear hg3 HL e0 e1 e2 e3 el
 go_wp2_with fail
 first | go_end0 | (refine bodyPost_ret (results_none rfl _ _ _) rfl ?_) | fail
 exact ⟨rfl,_,HG9.out⟩
theorem zkS (n:Int) (v:List Int) (t:List Trm) (c0 c1 c2 c3:Value) (B base mb:Nat) (K:KV) (X:Nat→Prop) (s:MSt) (d:Int) (W:World)
  (hv:TrmR W B (.mk 1 n v t) [c0,c1,c2,c3]) (hm:ZkIn W B base mb K X s) (hroom:Room s 1) (hd:0≤d∧d≤1900000) :
  Calls prog 39 #[.pointer (some ⟨mb,0,none⟩),.agg #[c0,c1,c2,c3],.int .i64 d,.bool false] W fun r w'=>r=.returned (.tuple #[])∧∃K',ZkGo B base mb K K' X (s.put ⟨1,d,Mk.lkF s.vars n,0,[]⟩) W w':=by
 obtain ⟨W1,hW1⟩:∃W1,W.alloc (.cells #[c0,c1,c2,c3] 27)=W1:=⟨_,rfl⟩
 have hsz:=hm.size
 obtain ⟨ov,lv,cvv,ot,lt,ct,rfl,rfl,rfl,rfl,hn,HBX,HM,HT,HV1,HB1,hlt,hlv⟩:=zaB W B base mb K X s _ n v t _ _ _ _ hv hm W1 hW1
 have HW:=zh hW1
 have HN:=zh hn
 have e0:=HBX.out.cell 0 rfl
 have e1:=HBX.out.cell 1 rfl
 have e2:=HBX.out.cell 2 rfl
 have e3:=HBX.out.cell 3 rfl
 have el:=HBX.out.lt
 have hcode:s.code.length≤1000000:=by have:=hroom.1;omega
 have hdi:I64 d:=⟨by omega,by omega⟩
 have hrl:=hroom.lk Mk.lkF_ok n
 obtain ⟨rg,hrg⟩:∃rg,Mk.lkF s.vars n=rg:=⟨_,rfl⟩
 have HRR:=zh (za9 n W1 HM.out rg hrg)
 rw[hrg] at hrl ⊢
 have HRL:=zh hrl
 clear hv hm hW1 hlt hlv hn hroom hrl hrg
 go_enter func39,ntmps39
 go_upto_region 1 with fail
 rw[HW.out]
 go_wp2_with fail
 with_reducible refine HRR.out.mono ?_
 rintro r w2 ⟨rfl,hb2⟩
 have HG2:=zh ((ZkGo.refl HM.out).after hb2)
 have HL:=zh (zal 1 d rg 0 [] none 0 0 w2 HG2.out.inn hcode (by constructor<;>omega) hdi ⟨by have:=HRL.out.1;omega,by have:=HRL.out.2;omega⟩ (by constructor<;>omega) (IntsM.nil _ _))
 clear hb2 HRR e0 e1 e2 e3 el
 go_wp2_with fail
 with_reducible refine HL.out.mono ?_
 rintro r w3 ⟨rfl,K3,hg3⟩
 have HG9:=zh ((HG2.out.next hg3).before HB1.out hsz)
 clear hg3 HL
 go_wp2_with fail
 first | go_end0 | (refine bodyPost_ret (results_none rfl _ _ _) rfl ?_) | fail
 exact ⟨rfl,_,HG9.out⟩
theorem zaX (op n:Int) (v:List Int) (t:List Trm) (ht:ZAllC t) (h3:op≠3) (h6:op≠6) (h8:op≠8) (h9:op≠9) (h0:op≠0) (h1:op≠1) (h11:op≠11) (h13:op≠13) (h21:op≠21) (h20:op≠20) (c0 c1 c2 c3:Value) (B base mb:Nat) (K:KV) (X:Nat→Prop) (s:MSt) (d:Int) (nc nk:Int) (fr:Bool) (sc:Int→Bool) (W:World)
  (hv:TrmR W B (.mk op n v t) [c0,c1,c2,c3]) (hm:ZkIn W B base mb K X s) (hw:∀x∈t,Trm.wf nc nk fr x sc=true) (hroom:Room s (2+6*Trm.allL t)) (hst:∀(ov ot:Option Addr) (lv cvv lt ct:Nat) (rs:List Int) (ol:Option Addr) (ll cl:Nat) (K:KV) (s:MSt) (W:World),rs.length=t.length→ZkIn W B base mb K X s→IntsM W (fun b=>SZ mb K b∨X b) rs (.slice ol ll cl)→Room s 2→Calls prog 81 #[.pointer (some ⟨mb,0,none⟩),.agg #[.int .i64 op,.int .i64 n,.slice ov lv cvv,.slice ot lt ct],.int .i64 d,.slice ol ll cl] W fun r w'=>r=.returned (.tuple #[])∧∃K',ZkGo B base mb K K' X (Mk.strict op n d rs s) W w') :
  Calls prog 39 #[.pointer (some ⟨mb,0,none⟩),.agg #[c0,c1,c2,c3],.int .i64 d,.bool false] W fun r w'=>r=.returned (.tuple #[])∧∃K',ZkGo B base mb K K' X (Mk.strict op n d (Mk.allT Mk.lkF t s).1 (Mk.allT Mk.lkF t s).2) W w':=by
 obtain ⟨W1,hW1⟩:∃W1,W.alloc (.cells #[c0,c1,c2,c3] 27)=W1:=⟨_,rfl⟩
 have hsz:=hm.size
 obtain ⟨ov,lv,cvv,ot,lt,ct,rfl,rfl,rfl,rfl,hn,HBX,HM,HT,HV1,HB1,hlt,hlv⟩:=zaB W B base mb K X s _ n v t _ _ _ _ hv hm W1 hW1
 have HW:=zh hW1
 have HN:=zh hn
 have f3:(op==3)=false:=by simpa using h3
 have f6:(op==6)=false:=by simpa using h6
 have f8:(op==8)=false:=by simpa using h8
 have f9:(op==9)=false:=by simpa using h9
 have f0:(op==0)=false:=by simpa using h0
 have f1:(op==1)=false:=by simpa using h1
 have f11:(op==11)=false:=by simpa using h11
 have f13:(op==13)=false:=by simpa using h13
 have f21:(op==21)=false:=by simpa using h21
 have f20:(op==20)=false:=by simpa using h20
 have e0:=HBX.out.cell 0 rfl
 have e1:=HBX.out.cell 1 rfl
 have e2:=HBX.out.cell 2 rfl
 have e3:=HBX.out.cell 3 rfl
 have el:=HBX.out.lt
 have HA:=zh (ht (.slice ot lt ct) B base mb K X s nc nk fr sc W1 HT.out HM.out hw (hroom.mono (by omega)))
 have hra:=Mk.Room.allT (k:=2) Mk.lkF_ok t s hroom
 have HPL0:=zh (zae Mk.lkF t s)
 obtain ⟨p,hp⟩:∃p,Mk.allT Mk.lkF t s=p:=⟨_,rfl⟩
 rw[hp] at HA hra HPL0
 rw[hp]
 have HRA:=zh hra
 have HST:=zh hst
 clear hv hm hW1 hlt hlv hn hroom hra hp hw ht hst h3 h6 h8 h9 h0 h1 h11 h13 h21 h20
 go_enter func39,ntmps39
 go_upto_region 1 with fail
 rw[HW.out]
 go_wp2_with fail
 with_reducible refine HA.out.mono ?_
 rintro r w2 ⟨rv,rfl,K2,hg2,hi2⟩
 obtain ⟨ol,ll,cl,rfl⟩:=hi2.1.form
 have HG2:=zh hg2
 have HBX2:=zh (HG2.out.box HM.out HBX.out (by decide) (by decide) (by decide))
 have HL:=zh (HST.out ov ot lv cvv lt ct p.1 ol ll cl K2 p.2 w2 HPL0.out HG2.out.inn hi2 HRA.out.1)
 clear hg2 hi2 HA e0 e1 e2 e3 el
 have e0:=HBX2.out.cell 0 rfl
 have e1:=HBX2.out.cell 1 rfl
 have e2:=HBX2.out.cell 2 rfl
 have e3:=HBX2.out.cell 3 rfl
 have el:=HBX2.out.lt
 go_wp2_with fail
 with_reducible refine HL.out.mono ?_
 rintro r w3 ⟨rfl,K3,hg3⟩
 have HG9:=zh ((HG2.out.next hg3).before HB1.out hsz)
 clear hg3 HL e0 e1 e2 e3 el
 go_wp2_with fail
 first | go_end0 | (refine bodyPost_ret (results_none rfl _ _ _) rfl ?_) | fail
 exact ⟨rfl,_,HG9.out⟩
theorem zeg (e:Bool) (n:Int) (v:List Int) (t:List Trm) (c0 c1 c2 c3:Value) (B base mb:Nat) (K:KV) (X:Nat→Prop) (s:MSt) (S:MSt) (d:Int) (W:World)
  (hv:TrmR W B (.mk 3 n v t) [c0,c1,c2,c3]) (hm:ZkIn W B base mb K X s)
  (hC:∀W,TrmR W B (.mk 3 n v t) [c0,c1,c2,c3]→ZkIn W B base mb K X s→Calls prog 74 #[.pointer (some ⟨mb,0,none⟩),.agg #[c0,c1,c2,c3],.int .i64 d,.bool e] W fun r w'=>r=.returned (.tuple #[])∧∃K',ZkGo B base mb K K' X S W w') :
  Calls prog 39 #[.pointer (some ⟨mb,0,none⟩),.agg #[c0,c1,c2,c3],.int .i64 d,.bool e] W fun r w'=>r=.returned (.tuple #[])∧∃K',ZkGo B base mb K K' X S W w':=by
 obtain ⟨W1,hW1⟩:∃W1,W.alloc (.cells #[c0,c1,c2,c3] 27)=W1:=⟨_,rfl⟩
 have hsz:=hm.size
 obtain ⟨ov,lv,cvv,ot,lt,ct,rfl,rfl,rfl,rfl,hn,HBX,HM,HT,HV1,HB1,hlt,hlv⟩:=zaB W B base mb K X s _ n v t _ _ _ _ hv hm W1 hW1
 have HW:=zh hW1
 have HN:=zh hn
 have e0:=HBX.out.cell 0 rfl
 have e1:=HBX.out.cell 1 rfl
 have e2:=HBX.out.cell 2 rfl
 have e3:=HBX.out.cell 3 rfl
 have el:=HBX.out.lt
 have HC:=zh (hC W1 HV1.out HM.out)
 clear hv hm hW1 hlt hlv hn hC
 go_enter func39,ntmps39
 go_upto_region 1 with fail
 rw[HW.out]
 go_wp2_with fail
 with_reducible refine HC.out.mono ?_
 rintro r w3 ⟨rfl,K3,hg3⟩
 have HG9:=zh (((ZkGo.refl HM.out).next hg3).before HB1.out hsz)
 clear hg3 HC e0 e1 e2 e3 el
 go_wp2_with fail
 first | go_end0 | (refine bodyPost_ret (results_none rfl _ _ _) rfl ?_) | fail
 exact ⟨rfl,_,HG9.out⟩
theorem zhT (e:Bool) (n:Int) (v:List Int) (t:List Trm) (c0 c1 c2 c3:Value) (B base mb:Nat) (K:KV) (X:Nat→Prop) (s:MSt) (S:MSt) (d:Int) (W:World)
  (hv:TrmR W B (.mk 8 n v t) [c0,c1,c2,c3]) (hm:ZkIn W B base mb K X s)
  (hC:∀W,TrmR W B (.mk 8 n v t) [c0,c1,c2,c3]→ZkIn W B base mb K X s→Calls prog 76 #[.pointer (some ⟨mb,0,none⟩),.agg #[c0,c1,c2,c3],.int .i64 d,.bool e] W fun r w'=>r=.returned (.tuple #[])∧∃K',ZkGo B base mb K K' X S W w') :
  Calls prog 39 #[.pointer (some ⟨mb,0,none⟩),.agg #[c0,c1,c2,c3],.int .i64 d,.bool e] W fun r w'=>r=.returned (.tuple #[])∧∃K',ZkGo B base mb K K' X S W w':=by
 obtain ⟨W1,hW1⟩:∃W1,W.alloc (.cells #[c0,c1,c2,c3] 27)=W1:=⟨_,rfl⟩
 have hsz:=hm.size
 obtain ⟨ov,lv,cvv,ot,lt,ct,rfl,rfl,rfl,rfl,hn,HBX,HM,HT,HV1,HB1,hlt,hlv⟩:=zaB W B base mb K X s _ n v t _ _ _ _ hv hm W1 hW1
 have HW:=zh hW1
 have HN:=zh hn
 have e0:=HBX.out.cell 0 rfl
 have e1:=HBX.out.cell 1 rfl
 have e2:=HBX.out.cell 2 rfl
 have e3:=HBX.out.cell 3 rfl
 have el:=HBX.out.lt
 have HC:=zh (hC W1 HV1.out HM.out)
 clear hv hm hW1 hlt hlv hn hC
 go_enter func39,ntmps39
 go_upto_region 1 with fail
 rw[HW.out]
 go_wp2_with fail
 with_reducible refine HC.out.mono ?_
 rintro r w3 ⟨rfl,K3,hg3⟩
 have HG9:=zh (((ZkGo.refl HM.out).next hg3).before HB1.out hsz)
 clear hg3 HC e0 e1 e2 e3 el
 go_wp2_with fail
 first | go_end0 | (refine bodyPost_ret (results_none rfl _ _ _) rfl ?_) | fail
 exact ⟨rfl,_,HG9.out⟩
theorem zhS (e:Bool) (n:Int) (v:List Int) (t:List Trm) (c0 c1 c2 c3:Value) (B base mb:Nat) (K:KV) (X:Nat→Prop) (s:MSt) (S:MSt) (d:Int) (W:World)
  (hv:TrmR W B (.mk 9 n v t) [c0,c1,c2,c3]) (hm:ZkIn W B base mb K X s)
  (hC:∀W,TrmR W B (.mk 9 n v t) [c0,c1,c2,c3]→ZkIn W B base mb K X s→Calls prog 76 #[.pointer (some ⟨mb,0,none⟩),.agg #[c0,c1,c2,c3],.int .i64 d,.bool e] W fun r w'=>r=.returned (.tuple #[])∧∃K',ZkGo B base mb K K' X S W w') :
  Calls prog 39 #[.pointer (some ⟨mb,0,none⟩),.agg #[c0,c1,c2,c3],.int .i64 d,.bool e] W fun r w'=>r=.returned (.tuple #[])∧∃K',ZkGo B base mb K K' X S W w':=by
 obtain ⟨W1,hW1⟩:∃W1,W.alloc (.cells #[c0,c1,c2,c3] 27)=W1:=⟨_,rfl⟩
 have hsz:=hm.size
 obtain ⟨ov,lv,cvv,ot,lt,ct,rfl,rfl,rfl,rfl,hn,HBX,HM,HT,HV1,HB1,hlt,hlv⟩:=zaB W B base mb K X s _ n v t _ _ _ _ hv hm W1 hW1
 have HW:=zh hW1
 have HN:=zh hn
 have e0:=HBX.out.cell 0 rfl
 have e1:=HBX.out.cell 1 rfl
 have e2:=HBX.out.cell 2 rfl
 have e3:=HBX.out.cell 3 rfl
 have el:=HBX.out.lt
 have HC:=zh (hC W1 HV1.out HM.out)
 clear hv hm hW1 hlt hlv hn hC
 go_enter func39,ntmps39
 go_upto_region 1 with fail
 rw[HW.out]
 go_wp2_with fail
 with_reducible refine HC.out.mono ?_
 rintro r w3 ⟨rfl,K3,hg3⟩
 have HG9:=zh (((ZkGo.refl HM.out).next hg3).before HB1.out hsz)
 clear hg3 HC e0 e1 e2 e3 el
 go_wp2_with fail
 first | go_end0 | (refine bodyPost_ret (results_none rfl _ _ _) rfl ?_) | fail
 exact ⟨rfl,_,HG9.out⟩
theorem zet (op n:Int) (v:List Int) (t:List Trm) (h3:op≠3) (h6:op≠6) (h8:op≠8) (h9:op≠9) (c0 c1 c2 c3:Value) (B base mb:Nat) (K:KV) (X:Nat→Prop) (s:MSt) (S:MSt) (d:Int) (W:World)
  (hv:TrmR W B (.mk op n v t) [c0,c1,c2,c3]) (hm:ZkIn W B base mb K X s)
  (hC:∀W,TrmR W B (.mk op n v t) [c0,c1,c2,c3]→ZkIn W B base mb K X s→Calls prog 77 #[.pointer (some ⟨mb,0,none⟩),.agg #[c0,c1,c2,c3]] W fun r w'=>r=.returned (.tuple #[])∧∃K',ZkGo B base mb K K' X S W w') :
  Calls prog 39 #[.pointer (some ⟨mb,0,none⟩),.agg #[c0,c1,c2,c3],.int .i64 d,.bool true] W fun r w'=>r=.returned (.tuple #[])∧∃K',ZkGo B base mb K K' X S W w':=by
 obtain ⟨W1,hW1⟩:∃W1,W.alloc (.cells #[c0,c1,c2,c3] 27)=W1:=⟨_,rfl⟩
 have hsz:=hm.size
 obtain ⟨ov,lv,cvv,ot,lt,ct,rfl,rfl,rfl,rfl,hn,HBX,HM,HT,HV1,HB1,hlt,hlv⟩:=zaB W B base mb K X s _ n v t _ _ _ _ hv hm W1 hW1
 have HW:=zh hW1
 have HN:=zh hn
 have f3:(op==3)=false:=by simpa using h3
 have f6:(op==6)=false:=by simpa using h6
 have f8:(op==8)=false:=by simpa using h8
 have f9:(op==9)=false:=by simpa using h9
 have e0:=HBX.out.cell 0 rfl
 have e1:=HBX.out.cell 1 rfl
 have e2:=HBX.out.cell 2 rfl
 have e3:=HBX.out.cell 3 rfl
 have el:=HBX.out.lt
 have HC:=zh (hC W1 HV1.out HM.out)
 clear hv hm hW1 hlt hlv hn hC h3 h6 h8 h9
 go_enter func39,ntmps39
 go_upto_region 1 with fail
 rw[HW.out]
 go_wp2_with fail
 with_reducible refine HC.out.mono ?_
 rintro r w3 ⟨rfl,K3,hg3⟩
 have HG9:=zh (((ZkGo.refl HM.out).next hg3).before HB1.out hsz)
 clear hg3 HC e0 e1 e2 e3 el
 go_wp2_with fail
 first | go_end0 | (refine bodyPost_ret (results_none rfl _ _ _) rfl ?_) | fail
 exact ⟨rfl,_,HG9.out⟩
theorem zhw (e:Bool) (n:Int) (v:List Int) (l:List Trm) (x:Trm) (hl:∀y∈l,ZHadC y) (hx:ZIntoC e x) (c0 c1 c2 c3:Value) (B base mb:Nat) (K:KV) (X:Nat→Prop) (s:MSt) (d:Int) (nc nk:Int) (fr:Bool) (sc sc':Int→Bool) (W:World)
  (hv:TrmR W B (.mk 6 n v (l++[x])) [c0,c1,c2,c3]) (hm:ZkIn W B base mb K X s) (hwl:∀y∈l,Trm.wf nc nk fr y sc=true) (hwx:Trm.wf nc nk fr x sc'=true) (hroom:Room s (6*Trm.allL (l++[x])+4)) (hd:0≤d∧d≤1900000) :
  Calls prog 39 #[.pointer (some ⟨mb,0,none⟩),.agg #[c0,c1,c2,c3],.int .i64 d,.bool e] W fun r w'=>r=.returned (.tuple #[])∧∃K',ZkGo B base mb K K' X (Mk.into Mk.lkF x d e (Mk.allT Mk.lkF l s).2) W w':=by
 obtain ⟨W1,hW1⟩:∃W1,W.alloc (.cells #[c0,c1,c2,c3] 27)=W1:=⟨_,rfl⟩
 have hsz:=hm.size
 obtain ⟨ov,lv,cvv,ot,lt,ct,rfl,rfl,rfl,rfl,hn,HBX,HM,HT,HV1,HB1,hlt,hlv⟩:=zaB W B base mb K X s _ n v (l++[x]) _ _ _ _ hv hm W1 hW1
 have HW:=zh hW1
 have HN:=zh hn
 have e0:=HBX.out.cell 0 rfl
 have e1:=HBX.out.cell 1 rfl
 have e2:=HBX.out.cell 2 rfl
 have e3:=HBX.out.cell 3 rfl
 have el:=HBX.out.lt
 obtain ⟨L,hL⟩:∃L,l.length=L:=⟨_,rfl⟩
 obtain rfl:lt=L+1:=by rw[hlt,←hL];simp
 have HLL:=zh hL
 have hLi:((L+1:Nat):Int)-1=(L:Int):=by omega
 obtain ⟨hltc,hltm⟩:=(SlC.lens HT.out).2
 have HH:=zh hl
 have HX:=zh hx
 have HWL:=zh hwl
 have HWX:=zh hwx
 rw[zaz,show Trm.allL [x]=x.all by simp[Trm.allL]] at hroom
 have HRO:=zh hroom
 have hxp:=x.all_pos
 clear hv hm hW1 hlt hlv hn hL hl hx hwl hwx hroom
 go_enter func39,ntmps39
 go_upto_region 1 with fail
 rw[HW.out]
 go_wp2_with fail
 go_loopg [9] L (fun g i wr=>∃(j:Nat) (K':KV),g=L-j∧i=.int .i64 j∧j≤L∧Hid (ZkGo B base mb K K' X (Mk.allT Mk.lkF (l.take j) s).2 W1 wr))
 case atStart=>exact ⟨0,K,rfl,rfl,by omega,zh (by simpa[Mk.allT] using ZkGo.refl HM.out)⟩
 case round=>
  obtain ⟨j,K',rfl,rfl,hj,HG⟩:=hrel
  clear e0 e1 e2 e3 el
  have HBX2:=zh (HG.out.box HM.out HBX.out (by decide) (by decide) (by decide))
  have e3:=HBX2.out.cell 3 rfl
  have el:=HBX2.out.lt
  by_cases hjl:j<L
  ·obtain ⟨y,hy⟩:∃y,l[j]?=some y:=⟨_,List.getElem?_eq_getElem (by rw[HLL.out];exact hjl)⟩
   obtain ⟨zb,zoff,z0,z1,z2,z3,hzo,hpz⟩:=TrmS.part (TrmS.kept HT.out HG.out.low) (i:=j) (x:=y) (by rw[List.getElem?_append_left (by rw[HLL.out];exact hjl)];exact hy)
   subst hzo
   obtain ⟨qa,qb,qc,qd,qe,qf,rfl,rfl,rfl,rfl,_⟩:=TrmR.shape hpz.r
   have hrm:=Room.allT (k:=6*y.all) Mk.lkF_ok (l.take j) s (HRO.out.mono (by have:=za2 hy;have:=zaQ l (j+1);omega))
   have HC:=zh (HH.out y (List.mem_of_getElem? hy) _ _ _ _ B base mb K' X (Mk.allT Mk.lkF (l.take j) s).2 nc nk fr sc wr hpz.r HG.out.inn (HWL.out y (List.mem_of_getElem? hy)) (hrm.1.mono (by omega)))
   have HTK:=zh (zbY Mk.lkF hy s)
   obtain ⟨q,hq⟩:∃q,Mk.had Mk.lkF y (Mk.allT Mk.lkF (l.take j) s).2=q:=⟨_,rfl⟩
   rw[hq] at HC HTK
   have q0:=hpz.e0
   have q1:=hpz.e1
   have q2:=hpz.e2
   have q3:=hpz.e3
   have ql:=hpz.size
   have hjt:j<L+1:=by omega
   clear hrm hq hy hpz
   go_wp2_with fail
   with_reducible refine HC.out.mono ?_
   rintro r w2 ⟨rfl,K2,hg2⟩
   have HG2:=zh (show ZkGo B base mb K K2 X (Mk.allT Mk.lkF (l.take (j+1)) s).2 W1 w2 from by rw[HTK.out];exact HG.out.next hg2)
   clear hg2 HC q0 q1 q2 q3 ql e3 el
   go_wp2_with fail
   go_roundg (L-(j+1))
   case measure=>omega
   case rel=>exact ⟨j+1,K2,rfl,by go_num,by omega,HG2⟩
  ·obtain rfl:j=L:=by omega
   have HE:=zh (show l.take j=l from List.take_of_length_le (by rw[HLL.out];exact Nat.le_refl _))
   have hg:=HG.out
   rw[HE.out] at hg
   have hra:=Room.allT (k:=6*x.all+4) Mk.lkF_ok l s (HRO.out.mono (by omega))
   obtain ⟨p,hp⟩:∃p,Mk.allT Mk.lkF l s=p:=⟨_,rfl⟩
   rw[hp] at hg hra
   have HP:=zh hp
   have HG5:=zh hg
   have HRA:=zh hra.1
   clear hg hra hp
   obtain ⟨tb,off,x0,x1,x2,x3,hto,hpx⟩:=TrmS.part HT.out (i:=j) (x:=x) (by rw[←HLL.out];simp)
   subst hto
   have HPX5:=zh (hpx.kept HG5.out.low)
   obtain ⟨qa,qb,qc,qd,qe,qf,rfl,rfl,rfl,rfl,_⟩:=TrmR.shape HPX5.out.r
   have HI:=zh (HX.out _ _ _ _ B base mb K' X _ d nc nk fr sc' wr HPX5.out.r HG5.out.inn HWX.out (HRA.out.mono (by omega)) hd)
   have q0:=HPX5.out.e0
   have q1:=HPX5.out.e1
   have q2:=HPX5.out.e2
   have q3:=HPX5.out.e3
   have ql:=HPX5.out.size
   clear hpx
   go_wp2_with fail
   with_reducible refine HI.out.mono ?_
   rintro r w6 ⟨rfl,K6,hg6⟩
   have HG9:=zh ((HG5.out.next hg6).before HB1.out hsz)
   clear hg6 HI e3 el q0 q1 q2 q3 ql
   go_wp2_with fail
   first | go_end0 | (refine bodyPost_ret (results_none rfl _ _ _) rfl ?_) | fail
   exact ⟨rfl,_,by rw[HP.out];exact HG9.out⟩
theorem zk8 (n:Int) (v:List Int) (t:List Trm) (ht:ZAllC t) (hct0:1≤t.length) (c0 c1 c2 c3:Value) (B base mb:Nat) (K:KV) (X:Nat→Prop) (s:MSt) (nc nk:Int) (fr:Bool) (sc:Int→Bool) (W:World)
  (hv:TrmR W B (.mk 5 n v t) [c0,c1,c2,c3]) (hm:ZkIn W B base mb K X s) (hw:∀x∈t,Trm.wf nc nk fr x sc=true) (hroom:Room s (2+6*Trm.allL t)) :
  Calls prog 77 #[.pointer (some ⟨mb,0,none⟩),.agg #[c0,c1,c2,c3]] W fun r w'=>r=.returned (.tuple #[])∧∃K',ZkGo B base mb K K' X (Mk.ended 5 n (Mk.allT Mk.lkF t s).1 (Mk.allT Mk.lkF t s).2) W w':=by
 obtain ⟨W1,hW1⟩:∃W1,W.alloc (.cells #[c0,c1,c2,c3] 27)=W1:=⟨_,rfl⟩
 have hsz:=hm.size
 obtain ⟨ov,lv,cvv,ot,lt,ct,rfl,rfl,rfl,rfl,hn,HBX,HM,HT,HV1,HB1,hlt,hlv⟩:=zaB W B base mb K X s _ n v t _ _ _ _ hv hm W1 hW1
 have HW:=zh hW1
 have HN:=zh hn
 have e0:=HBX.out.cell 0 rfl
 have e1:=HBX.out.cell 1 rfl
 have e2:=HBX.out.cell 2 rfl
 have e3:=HBX.out.cell 3 rfl
 have el:=HBX.out.lt
 have HA:=zh (ht (.slice ot lt ct) B base mb K X s nc nk fr sc W1 HT.out HM.out hw (hroom.mono (by omega)))
 have hra:=Mk.Room.allT (k:=2) Mk.lkF_ok t s hroom
 have hrs:=zae Mk.lkF t s
 obtain ⟨⟨rs,s2⟩,hp⟩:∃p,Mk.allT Mk.lkF t s=p:=⟨_,rfl⟩
 rw[hp] at HA hra hrs
 rw[hp]
 dsimp only at HA hra hrs ⊢
 have HRA:=zh hra
 have hcode:s2.code.length≤1000000:=by have:=hra.1.1;omega
 have hct:1≤rs.length:=by omega
 clear hv hm hW1 hlt hlv hn hroom hra hp hw ht hrs
 go_enter func77,ntmps77
 go_upto_region 1 with fail
 rw[HW.out]
 go_wp2_with fail
 with_reducible refine HA.out.mono ?_
 rintro r w2 ⟨rv,rfl,K2,hg2,hi2⟩
 obtain ⟨ol,ll,cl,rfl⟩:=hi2.1.form
 have HG2:=zh hg2
 have HI1:=zh hi2
 have HBX2:=zh (HG2.out.box HM.out HBX.out (by decide) (by decide) (by decide))
 obtain ⟨hll,hlc,hlm⟩:=HI1.out.1.lens
 clear hg2 hi2 HA e0 e1 e2 e3 el
 have e0:=HBX2.out.cell 0 rfl
 have e1:=HBX2.out.cell 1 rfl
 have el:=HBX2.out.lt
 obtain ⟨r0,rl,rfl⟩:∃r0 rl,rs=r0::rl:=by
  cases rs with
  | nil=>simp at hct
  | cons a b=>exact ⟨a,b,rfl⟩
 obtain ⟨gb,goff,hgo,hgb,hgc,hri⟩:=SlC.int (j:=0) HI1.out.1 (x:=r0) rfl
 subst hgo
 have hgl:=zac hgc
 rw[Nat.add_zero] at hgc
 simp only[List.length_cons] at hll
 subst hll
 have HRI:=zh hri
 clear hri
 go_upto_region 6 with fail
 by_cases hcl1:cl=1
 ·subst hcl1
  have HDR:=zh (IntsM.rest1 HI1.out)
  have HDL:=zh (fun (W3:World) (hb:Below w2.heap.size w2 W3)=>zal 19 0 r0 0 rl (some ⟨gb,goff,none⟩) 0 0 W3 (HG2.out.inn.keep hb) hcode (by constructor<;>omega) (by constructor<;>omega) HRI.out (by constructor<;>omega) (HDR.out.below hb))
  have HD:=zh ((Below.refl w2.heap.size w2).drew)
  refine zaa (Below w2.heap.size w2) 7 (by kernel_rfl) (by kernel_rfl) HD.out ?_
  intro T0 _ WW HWW HWW2
  have z0:∀t,(WW t).cell? _=_:=fun t=>((HWW t).cell (p:=⟨gb,goff,none⟩) hgl).trans hgc
  have HWH:=zh HWW
  clear HWW HWW2
  simp only[List.take_succ_cons,List.take_zero,List.drop_succ_cons,List.drop_zero]
  repeat (go_big_quiet_step (fail))
  refine wpQuiet_nil ?_
  intro t'
  obtain ⟨W3,hW3⟩:∃W3,WW t'=W3:=⟨_,rfl⟩
  have HB3:=zh (show Below w2.heap.size w2 W3 from hW3 ▸ HWH.out t')
  rw[hW3]
  clear z0 hW3 HWH
  have HL:=zh (HDL.out W3 HB3.out)
  clear e0 e1 el
  go_wp2_with fail
  with_reducible refine HL.out.mono ?_
  rintro r w3 ⟨rfl,K3,hg3⟩
  have HG9:=zh (((HG2.out.after HB3.out).next hg3).before HB1.out hsz)
  clear hg3 HL hgc hgl
  go_wp2_with fail
  first | go_end0 | (refine bodyPost_ret (results_none rfl _ _ _) rfl ?_) | fail
  exact ⟨rfl,_,HG9.out⟩
 ·have hcl2:1<cl:=by omega
  have HDR:=zh (IntsM.rest2 HI1.out hcl1)
  have HDL:=zh (fun (W3:World) (hb:Below w2.heap.size w2 W3)=>zal 19 0 r0 0 rl (some ⟨gb,goff+1,none⟩) rl.length (cl-1) W3 (HG2.out.inn.keep hb) hcode (by constructor<;>omega) (by constructor<;>omega) HRI.out (by constructor<;>omega) (HDR.out.below hb))
  have HD:=zh ((Below.refl w2.heap.size w2).drew)
  refine zaa (Below w2.heap.size w2) 7 (by kernel_rfl) (by kernel_rfl) HD.out ?_
  intro T0 _ WW HWW HWW2
  have z0:∀t,(WW t).cell? _=_:=fun t=>((HWW t).cell (p:=⟨gb,goff,none⟩) hgl).trans hgc
  have HWH:=zh HWW
  clear HWW HWW2
  simp only[List.take_succ_cons,List.take_zero,List.drop_succ_cons,List.drop_zero]
  repeat (go_big_quiet_step (fail))
  refine wpQuiet_nil ?_
  intro t'
  obtain ⟨W3,hW3⟩:∃W3,WW t'=W3:=⟨_,rfl⟩
  have HB3:=zh (show Below w2.heap.size w2 W3 from hW3 ▸ HWH.out t')
  rw[hW3]
  clear z0 hW3 HWH
  have HL:=zh (HDL.out W3 HB3.out)
  clear e0 e1 el
  go_wp2_with fail
  with_reducible refine HL.out.mono ?_
  rintro r w3 ⟨rfl,K3,hg3⟩
  have HG9:=zh (((HG2.out.after HB3.out).next hg3).before HB1.out hsz)
  clear hg3 HL hgc hgl
  go_wp2_with fail
  first | go_end0 | (refine bodyPost_ret (results_none rfl _ _ _) rfl ?_) | fail
  exact ⟨rfl,_,HG9.out⟩
theorem zjw (n:Int) (v:List Int) (t:List Trm) (ht:ZAllC t) (hct0:1≤t.length) (c0 c1 c2 c3:Value) (B base mb:Nat) (K:KV) (X:Nat→Prop) (s:MSt) (nc nk:Int) (fr:Bool) (sc:Int→Bool) (W:World)
  (hv:TrmR W B (.mk 22 n v t) [c0,c1,c2,c3]) (hm:ZkIn W B base mb K X s) (hw:∀x∈t,Trm.wf nc nk fr x sc=true) (hroom:Room s (2+6*Trm.allL t)) :
  Calls prog 77 #[.pointer (some ⟨mb,0,none⟩),.agg #[c0,c1,c2,c3]] W fun r w'=>r=.returned (.tuple #[])∧∃K',ZkGo B base mb K K' X (Mk.ended 22 n (Mk.allT Mk.lkF t s).1 (Mk.allT Mk.lkF t s).2) W w':=by
 obtain ⟨W1,hW1⟩:∃W1,W.alloc (.cells #[c0,c1,c2,c3] 27)=W1:=⟨_,rfl⟩
 have hsz:=hm.size
 obtain ⟨ov,lv,cvv,ot,lt,ct,rfl,rfl,rfl,rfl,hn,HBX,HM,HT,HV1,HB1,hlt,hlv⟩:=zaB W B base mb K X s _ n v t _ _ _ _ hv hm W1 hW1
 have HW:=zh hW1
 have HN:=zh hn
 have e0:=HBX.out.cell 0 rfl
 have e1:=HBX.out.cell 1 rfl
 have e2:=HBX.out.cell 2 rfl
 have e3:=HBX.out.cell 3 rfl
 have el:=HBX.out.lt
 have HA:=zh (ht (.slice ot lt ct) B base mb K X s nc nk fr sc W1 HT.out HM.out hw (hroom.mono (by omega)))
 have hra:=Mk.Room.allT (k:=2) Mk.lkF_ok t s hroom
 have hrs:=zae Mk.lkF t s
 obtain ⟨⟨rs,s2⟩,hp⟩:∃p,Mk.allT Mk.lkF t s=p:=⟨_,rfl⟩
 rw[hp] at HA hra hrs
 rw[hp]
 dsimp only at HA hra hrs ⊢
 have HRA:=zh hra
 have hcode:s2.code.length≤1000000:=by have:=hra.1.1;omega
 have hct:1≤rs.length:=by omega
 clear hv hm hW1 hlt hlv hn hroom hra hp hw ht hrs
 go_enter func77,ntmps77
 go_upto_region 1 with fail
 rw[HW.out]
 go_wp2_with fail
 with_reducible refine HA.out.mono ?_
 rintro r w2 ⟨rv,rfl,K2,hg2,hi2⟩
 obtain ⟨ol,ll,cl,rfl⟩:=hi2.1.form
 have HG2:=zh hg2
 have HI1:=zh hi2
 have HBX2:=zh (HG2.out.box HM.out HBX.out (by decide) (by decide) (by decide))
 obtain ⟨hll,hlc,hlm⟩:=HI1.out.1.lens
 clear hg2 hi2 HA e0 e1 e2 e3 el
 have e0:=HBX2.out.cell 0 rfl
 have e1:=HBX2.out.cell 1 rfl
 have el:=HBX2.out.lt
 obtain ⟨r0,rl,rfl⟩:∃r0 rl,rs=r0::rl:=by
  cases rs with
  | nil=>simp at hct
  | cons a b=>exact ⟨a,b,rfl⟩
 obtain ⟨gb,goff,hgo,hgb,hgc,hri⟩:=SlC.int (j:=0) HI1.out.1 (x:=r0) rfl
 subst hgo
 have hgl:=zac hgc
 rw[Nat.add_zero] at hgc
 simp only[List.length_cons] at hll
 subst hll
 have HRI:=zh hri
 clear hri
 go_upto_region 8 with fail
 by_cases hcl1:cl=1
 ·subst hcl1
  have HDR:=zh (IntsM.rest1 HI1.out)
  have HDL:=zh (fun (W3:World) (hb:Below w2.heap.size w2 W3)=>zal 20 0 n r0 rl (some ⟨gb,goff,none⟩) 0 0 W3 (HG2.out.inn.keep hb) hcode (by constructor<;>omega) (by constructor<;>omega) HN.out HRI.out (HDR.out.below hb))
  have HD:=zh ((Below.refl w2.heap.size w2).drew)
  refine zaa (Below w2.heap.size w2) 9 (by kernel_rfl) (by kernel_rfl) HD.out ?_
  intro T0 _ WW HWW HWW2
  have z0:∀t,(WW t).cell? _=_:=fun t=>((HWW t).cell (p:=⟨gb,goff,none⟩) hgl).trans hgc
  have z1:∀t,(WW t).cell? _=_:=fun t=>((HWW t).cell (p:=⟨W.heap.size,1,none⟩) el).trans e1
  have HWH:=zh HWW
  clear HWW HWW2
  simp only[List.take_succ_cons,List.take_zero,List.drop_succ_cons,List.drop_zero]
  repeat (go_big_quiet_step (fail))
  refine wpQuiet_nil ?_
  intro t'
  obtain ⟨W3,hW3⟩:∃W3,WW t'=W3:=⟨_,rfl⟩
  have HB3:=zh (show Below w2.heap.size w2 W3 from hW3 ▸ HWH.out t')
  rw[hW3]
  clear z0 z1 hW3 HWH
  have HL:=zh (HDL.out W3 HB3.out)
  clear e0 e1 el
  go_wp2_with fail
  with_reducible refine HL.out.mono ?_
  rintro r w3 ⟨rfl,K3,hg3⟩
  have HG9:=zh (((HG2.out.after HB3.out).next hg3).before HB1.out hsz)
  clear hg3 HL hgc hgl
  go_wp2_with fail
  first | go_end0 | (refine bodyPost_ret (results_none rfl _ _ _) rfl ?_) | fail
  exact ⟨rfl,_,HG9.out⟩
 ·have hcl2:1<cl:=by omega
  have HDR:=zh (IntsM.rest2 HI1.out hcl1)
  have HDL:=zh (fun (W3:World) (hb:Below w2.heap.size w2 W3)=>zal 20 0 n r0 rl (some ⟨gb,goff+1,none⟩) rl.length (cl-1) W3 (HG2.out.inn.keep hb) hcode (by constructor<;>omega) (by constructor<;>omega) HN.out HRI.out (HDR.out.below hb))
  have HD:=zh ((Below.refl w2.heap.size w2).drew)
  refine zaa (Below w2.heap.size w2) 9 (by kernel_rfl) (by kernel_rfl) HD.out ?_
  intro T0 _ WW HWW HWW2
  have z0:∀t,(WW t).cell? _=_:=fun t=>((HWW t).cell (p:=⟨gb,goff,none⟩) hgl).trans hgc
  have z1:∀t,(WW t).cell? _=_:=fun t=>((HWW t).cell (p:=⟨W.heap.size,1,none⟩) el).trans e1
  have HWH:=zh HWW
  clear HWW HWW2
  simp only[List.take_succ_cons,List.take_zero,List.drop_succ_cons,List.drop_zero]
  repeat (go_big_quiet_step (fail))
  refine wpQuiet_nil ?_
  intro t'
  obtain ⟨W3,hW3⟩:∃W3,WW t'=W3:=⟨_,rfl⟩
  have HB3:=zh (show Below w2.heap.size w2 W3 from hW3 ▸ HWH.out t')
  rw[hW3]
  clear z0 z1 hW3 HWH
  have HL:=zh (HDL.out W3 HB3.out)
  clear e0 e1 el
  go_wp2_with fail
  with_reducible refine HL.out.mono ?_
  rintro r w3 ⟨rfl,K3,hg3⟩
  have HG9:=zh (((HG2.out.after HB3.out).next hg3).before HB1.out hsz)
  clear hg3 HL hgc hgl
  go_wp2_with fail
  first | go_end0 | (refine bodyPost_ret (results_none rfl _ _ _) rfl ?_) | fail
  exact ⟨rfl,_,HG9.out⟩
theorem zkc (n:Int) (v:List Int) (t:List Trm) (ht:ZAllC t) (hn29:29≤n) (c0 c1 c2 c3:Value) (B base mb:Nat) (K:KV) (X:Nat→Prop) (s:MSt) (nc nk:Int) (fr:Bool) (sc:Int→Bool) (W:World)
  (hv:TrmR W B (.mk 10 n v t) [c0,c1,c2,c3]) (hm:ZkIn W B base mb K X s) (hw:∀x∈t,Trm.wf nc nk fr x sc=true) (hroom:Room s (2+6*Trm.allL t)) :
  Calls prog 77 #[.pointer (some ⟨mb,0,none⟩),.agg #[c0,c1,c2,c3]] W fun r w'=>r=.returned (.tuple #[])∧∃K',ZkGo B base mb K K' X (Mk.ended 10 n (Mk.allT Mk.lkF t s).1 (Mk.allT Mk.lkF t s).2) W w':=by
 obtain ⟨W1,hW1⟩:∃W1,W.alloc (.cells #[c0,c1,c2,c3] 27)=W1:=⟨_,rfl⟩
 have hsz:=hm.size
 obtain ⟨ov,lv,cvv,ot,lt,ct,rfl,rfl,rfl,rfl,hn,HBX,HM,HT,HV1,HB1,hlt,hlv⟩:=zaB W B base mb K X s _ n v t _ _ _ _ hv hm W1 hW1
 have HW:=zh hW1
 have HN:=zh hn
 have e0:=HBX.out.cell 0 rfl
 have e1:=HBX.out.cell 1 rfl
 have e2:=HBX.out.cell 2 rfl
 have e3:=HBX.out.cell 3 rfl
 have el:=HBX.out.lt
 have HA:=zh (ht (.slice ot lt ct) B base mb K X s nc nk fr sc W1 HT.out HM.out hw (hroom.mono (by omega)))
 have hra:=Mk.Room.allT (k:=2) Mk.lkF_ok t s hroom
 have hrs:=zae Mk.lkF t s
 obtain ⟨⟨rs,s2⟩,hp⟩:∃p,Mk.allT Mk.lkF t s=p:=⟨_,rfl⟩
 rw[hp] at HA hra hrs
 rw[hp]
 dsimp only at HA hra hrs ⊢
 have HRA:=zh hra
 have hcode:s2.code.length≤1000000:=by have:=hra.1.1;omega
 have g29:decide (29≤n)=true:=decide_eq_true hn29
 clear hv hm hW1 hlt hlv hn hroom hra hp hw ht hrs hn29
 go_enter func77,ntmps77
 go_upto_region 1 with fail
 rw[HW.out]
 go_wp2_with fail
 with_reducible refine HA.out.mono ?_
 rintro r w2 ⟨rv,rfl,K2,hg2,hi2⟩
 obtain ⟨ol,ll,cl,rfl⟩:=hi2.1.form
 have HG2:=zh hg2
 have HI1:=zh hi2
 have HBX2:=zh (HG2.out.box HM.out HBX.out (by decide) (by decide) (by decide))
 obtain ⟨hll,hlc,hlm⟩:=HI1.out.1.lens
 clear hg2 hi2 HA e0 e1 e2 e3 el
 have e0:=HBX2.out.cell 0 rfl
 have e1:=HBX2.out.cell 1 rfl
 have el:=HBX2.out.lt
 clear hll
 have HL:=zh (zal 21 0 n 0 rs ol ll cl w2 HG2.out.inn hcode (by constructor<;>omega) (by constructor<;>omega) HN.out (by constructor<;>omega) HI1.out)
 go_wp2_with fail
 with_reducible refine HL.out.mono ?_
 rintro r w3 ⟨rfl,K3,hg3⟩
 have HG9:=zh ((HG2.out.next hg3).before HB1.out hsz)
 clear hg3 HL e0 e1 el
 go_wp2_with fail
 first | go_end0 | (refine bodyPost_ret (results_none rfl _ _ _) rfl ?_) | fail
 exact ⟨rfl,_,HG9.out⟩
def ZIntoR (r:Nat) (e:Bool) (x:Trm):Prop:=∀(c0 c1 c2 c3:Value) (B base mb:Nat) (K:KV) (X:Nat→Prop) (s:MSt) (d:Int) (nc nk:Int) (fr:Bool) (sc:Int→Bool) (W:World),TrmR W B x [c0,c1,c2,c3]→ZkIn W B base mb K X s→Trm.wf nc nk fr x sc=true→Room s r→0≤d∧d≤1900000 →
 Calls prog 39 #[.pointer (some ⟨mb,0,none⟩),.agg #[c0,c1,c2,c3],.int .i64 d,.bool e] W fun q w'=>q=.returned (.tuple #[])∧∃K',ZkGo B base mb K K' X (Mk.into Mk.lkF x d e s) W w'
def ZHadR (r:Nat) (x:Trm):Prop:=∀(c0 c1 c2 c3:Value) (B base mb:Nat) (K:KV) (X:Nat→Prop) (s:MSt) (nc nk:Int) (fr:Bool) (sc:Int→Bool) (W:World),TrmR W B x [c0,c1,c2,c3]→ZkIn W B base mb K X s→Trm.wf nc nk fr x sc=true→Room s r →
 Calls prog 75 #[.pointer (some ⟨mb,0,none⟩),.agg #[c0,c1,c2,c3]] W fun q w'=>q=.returned (.int .i64 (Mk.had Mk.lkF x s).1)∧∃K',ZkGo B base mb K K' X (Mk.had Mk.lkF x s).2 W w'
theorem zh7 (r:Nat) (x:Trm) (hx:ZIntoR r false x):ZHadR (r+1) x:=by
 intro c0 c1 c2 c3 B base mb K X s nc nk fr sc W hv hm hw hroom
 have hroom2:=Room.mono hroom (k':=1) (by omega)
 obtain ⟨W1,hW1⟩:∃W1,W.alloc (.cells #[c0,c1,c2,c3] 27)=W1:=⟨_,rfl⟩
 have HB1:=zh (show Below W.heap.size W W1 from by rw[←hW1];exact Below.one W _)
 have HBX:=zh (show BoxL W1 W.heap.size 27 [c0,c1,c2,c3] from by rw[←hW1];exact BoxL.new rfl _ _)
 have HM:=zh (hm.keep HB1.out)
 have hsz:=hm.size
 have HV:=zh (TrmR.kept (HB1.out.mono hm.size) _ _ hv)
 have HW:=zh hW1
 have HX:=zh hx
 have HLT:=zh hm.st.lt
 obtain ⟨op,n,v,t⟩:=x
 obtain ⟨ov,lv,cvv,ot,lt,ct,rfl,rfl,rfl,rfl,hn⟩:=TrmR.shape hv
 dsimp only[Trm.op,Trm.n] at *
 have x0:=HBX.out.cell 0 rfl
 have x1:=HBX.out.cell 1 rfl
 have x2:=HBX.out.cell 2 rfl
 have x3:=HBX.out.cell 3 rfl
 have xl:=HBX.out.lt
 by_cases h1:op=1
 ·subst h1
  have hpost:(Mk.had Mk.lkF (.mk 1 n v t) s)=(Mk.lkF s.vars n,s):=by simp[Mk.had,Mk.hadW,Trm.op,Trm.n]
  rw[hpost]
  have HRG:=zh (za9 n W1 HM.out _ rfl)
  clear hv hm hx hW1 hw hroom hpost
  go_enter func75,ntmps75
  go_upto_region 2 with fail
  rw[HW.out]
  go_wp2_with fail
  with_reducible refine HRG.out.mono ?_
  rintro e w2 ⟨rfl,hb2⟩
  have HB2:=zh hb2
  clear hb2 x0 x1 x2 x3 xl
  go_wp2_with fail
  go_ret
  exact ⟨rfl,K,((ZkGo.refl HM.out).after HB2.out).before HB1.out hsz⟩
 ·have f1:(op==1)=false:=by simpa using h1
  have hpost:(Mk.had Mk.lkF (.mk op n v t) s)=(s.regs,Mk.into Mk.lkF (.mk op n v t) s.regs false s.fresh):=if_neg h1
  rw[hpost]
  have HF:=zh (zck W1 HM.out hroom2)
  have hro:=zh hroom
  have hall:=(Trm.mk op n v t).all_pos
  have hwf:=zh hw
  clear hv hm hx hW1 hw hroom hpost
  go_enter func75,ntmps75
  go_upto_region 3 with fail
  rw[HW.out]
  go_wp2_with fail
  refine HF.out.mono ?_
  rintro e w2 ⟨rfl,hg⟩
  have HG:=zh hg
  have HBX2:=zh (HG.out.turned.box HBX.out (fun hs=>Nat.lt_irrefl _ (HLT.out _ hs)))
  have HI:=zh (HX.out _ _ _ _ B base mb K X s.fresh s.regs nc nk fr sc w2 (TrmR.kept HG.out.low _ _ HV.out) HG.out.inn hwf.out (Room.fresh (hro.out.mono (by omega))) ⟨hro.out.2.1,by have:=hro.out.2.2.1;omega⟩)
  clear x0 x1 x2 x3 xl hg
  have x0:=HBX2.out.cell 0 rfl
  have x1:=HBX2.out.cell 1 rfl
  have x2:=HBX2.out.cell 2 rfl
  have x3:=HBX2.out.cell 3 rfl
  have xl:=HBX2.out.lt
  go_wp2_with fail
  refine HI.out.mono ?_
  rintro e w3 ⟨rfl,K',hg⟩
  have HG3:=zh ((HG.out.next hg).before HB1.out hsz)
  clear hg x0 x1 x2 x3 xl
  go_wp2_with fail
  go_ret
  exact ⟨rfl,_,HG3.out⟩
theorem zgk (rm:Nat) (op n:Int) (v:List Int) (t:List Trm) (hx:ZHadR rm (.mk op n v t)) (h5:op≠5) (h22:op≠22) (h10:op≠10∨n<29) (c0 c1 c2 c3:Value) (B base mb:Nat) (K:KV) (X:Nat→Prop) (s:MSt) (nc nk:Int) (fr:Bool) (sc:Int→Bool) (W:World)
  (hv:TrmR W B (.mk op n v t) [c0,c1,c2,c3]) (hm:ZkIn W B base mb K X s) (hw:Trm.wf nc nk fr (.mk op n v t) sc=true) (hroom:Room s rm) (hrh:Room (Mk.had Mk.lkF (.mk op n v t) s).2 1∧0≤(Mk.had Mk.lkF (.mk op n v t) s).1∧(Mk.had Mk.lkF (.mk op n v t) s).1≤1900000) :
  Calls prog 77 #[.pointer (some ⟨mb,0,none⟩),.agg #[c0,c1,c2,c3]] W fun r w'=>r=.returned (.tuple #[])∧∃K',ZkGo B base mb K K' X ((Mk.had Mk.lkF (.mk op n v t) s).2.put ⟨22,0,(Mk.had Mk.lkF (.mk op n v t) s).1,0,[]⟩) W w':=by
 obtain ⟨W1,hW1⟩:∃W1,W.alloc (.cells #[c0,c1,c2,c3] 27)=W1:=⟨_,rfl⟩
 have hsz:=hm.size
 obtain ⟨ov,lv,cvv,ot,lt,ct,rfl,rfl,rfl,rfl,hn,HBX,HM,HT,HV1,HB1,hlt,hlv⟩:=zaB W B base mb K X s _ n v t _ _ _ _ hv hm W1 hW1
 have HW:=zh hW1
 have HN:=zh hn
 have HX:=zh (hx _ _ _ _ B base mb K X s nc nk fr sc W1 HV1.out HM.out hw hroom)
 obtain ⟨q,hq⟩:∃q,Mk.had Mk.lkF (.mk op n v t) s=q:=⟨_,rfl⟩
 rw[hq] at hrh
 rw[hq] at HX ⊢
 have HRH:=zh hrh
 have f5:(op==5)=false:=by simpa using h5
 have f22:(op==22)=false:=by simpa using h22
 have e0:=HBX.out.cell 0 rfl
 have e1:=HBX.out.cell 1 rfl
 have e2:=HBX.out.cell 2 rfl
 have e3:=HBX.out.cell 3 rfl
 have el:=HBX.out.lt
 clear hv hm hW1 hw hroom hlt hlv hn hx hq hrh
 by_cases ho:op=10
 ·subst ho
  have hn29:decide (29≤n)=false:=decide_eq_false (by rcases h10 with h | h<;>omega)
  clear h10 f5 f22 h5 h22
  go_enter func77,ntmps77
  go_upto_region 1 with fail
  rw[HW.out]
  go_wp2_with fail
  with_reducible refine HX.out.mono ?_
  rintro r w2 ⟨rfl,K2,hg2⟩
  have HG2:=zh hg2
  have HL:=zh (zal 22 0 q.1 0 [] none 0 0 w2 hg2.inn (by have:=HRH.out.1.1;omega) (by constructor<;>omega) (by constructor<;>omega) ⟨by have:=HRH.out.2.1;omega,by have:=HRH.out.2.2;omega⟩ (by constructor<;>omega) (IntsM.nil _ _))
  clear hg2 HX e0 e1 e2 e3 el
  go_wp2_with fail
  with_reducible refine HL.out.mono ?_
  rintro r w3 ⟨rfl,K3,hg3⟩
  have HG9:=zh ((HG2.out.next hg3).before HB1.out hsz)
  clear hg3 HL
  go_wp2_with fail
  first | go_end0 | (refine bodyPost_ret (results_none rfl _ _ _) rfl ?_) | fail
  exact ⟨rfl,_,HG9.out⟩
 ·have f10:(op==10)=false:=by simpa using ho
  clear h10 h5 h22 ho
  go_enter func77,ntmps77
  go_upto_region 1 with fail
  rw[HW.out]
  go_wp2_with fail
  with_reducible refine HX.out.mono ?_
  rintro r w2 ⟨rfl,K2,hg2⟩
  have HG2:=zh hg2
  have HL:=zh (zal 22 0 q.1 0 [] none 0 0 w2 hg2.inn (by have:=HRH.out.1.1;omega) (by constructor<;>omega) (by constructor<;>omega) ⟨by have:=HRH.out.2.1;omega,by have:=HRH.out.2.2;omega⟩ (by constructor<;>omega) (IntsM.nil _ _))
  clear hg2 HX e0 e1 e2 e3 el
  go_wp2_with fail
  with_reducible refine HL.out.mono ?_
  rintro r w3 ⟨rfl,K3,hg3⟩
  have HG9:=zh ((HG2.out.next hg3).before HB1.out hsz)
  clear hg3 HL
  go_wp2_with fail
  first | go_end0 | (refine bodyPost_ret (results_none rfl _ _ _) rfl ?_) | fail
  exact ⟨rfl,_,HG9.out⟩
end
section
open Go Go.RowKit
theorem zeP (l:List Dat) (v:Value) (B:Nat) (w:World) (hv:RepS w B l v) (hB:B≤w.heap.size) (E:Bool) (hE:(l.all fun x=>Dat.right x 0)=E) :
  Calls prog 35 #[v] w fun e w'=>e=.returned (.bool E)∧Below w.heap.size w w':=by
 obtain ⟨ok,nk,ck,rfl,hnk,hcapk,hmaxk,hck⟩:=hv
 have HCK:=zh hck
 have HNK:=zh hnk
 have HE:=zh hE
 clear hck hnk hE
 go_enter func35,ntmps35
 go_wp2_with fail
 go_loopg [3] nk (fun g i wr=>∃j:Nat,g=nk-j∧j≤nk∧i=.int .i64 j∧Hid ((l.take j).all (fun x=>Dat.right x 0)=true)∧Hid (Below w.heap.size w wr))
 case atStart=>exact ⟨0,rfl,by omega,rfl,zh (by simp),zh (Below.refl _ _)⟩
 case round=>
  obtain ⟨j,rfl,hj,rfl,HA,HW⟩:=hrel
  by_cases hjl:j<nk
  ·obtain ⟨x,hx⟩:∃x,l[j]?=some x:=⟨_,List.getElem?_eq_getElem (by rw[←HNK.out];exact hjl)⟩
   obtain ⟨b,off,k',n',d',s',l',o',len',cap',ho,hxe,e0,e1,e2,e3,e4,er⟩:=za8 HCK.out (HW.out.mono hB) hx
   have hbl:=zac e0
   obtain ⟨r,hr⟩:∃r,Dat.right x 0=r:=⟨_,rfl⟩
   have HR:=zh (zer x (.agg #[.int .i64 k',.int .i64 n',.int .i64 d',.string s',.slice o' len' cap']) B wr r hr (by rw[hxe];exact er) (by have:=HW.out.size;omega))
   have HX:=zh hx
   have HRR:=zh hr
   subst ho
   clear hx hr er hxe
   go_wp2_with fail
   refine HR.out.mono ?_
   rintro e w2 ⟨rfl,hb2⟩
   have HW2:=zh (Below.next HW.out hb2)
   clear hb2 HR e0 e1 e2 e3 e4
   cases r with
   | false=>
    obtain rfl:E=false:=by
     rw[←HE.out,List.all_eq_false]
     exact ⟨x,List.mem_of_getElem? HX.out,by rw[HRR.out];simp⟩
    go_wp2_with fail
    go_ret
    exact ⟨rfl,HW2.out⟩
   | true=>
    have HA2:=zh (show (l.take (j+1)).all (fun x=>Dat.right x 0)=true from by
     rw[List.take_add_one,HX.out,List.all_append,HA.out]
     simp[HRR.out])
    go_wp2_with fail
    go_roundg (nk-(j+1))
    case measure=>omega
    case rel=>exact ⟨j+1,rfl,by omega,by go_num,HA2,HW2⟩
  ·obtain rfl:j=nk:=by omega
   obtain rfl:E=true:=by
    have h2:=HA.out
    rw[List.take_of_length_le (by rw[←HNK.out];exact Nat.le_refl _)] at h2
    rw[←HE.out,h2]
   go_wp2_with fail
   go_ret
   exact ⟨rfl,HW.out⟩
theorem IntsM.of_low {W:World} {B:Nat} {S:Nat→Prop} {l:List Int} {v:Value} (h:SlC W B 1 IntR l v) (hB:B≤W.heap.size) (hS:∀b,S b→B≤b):IntsM W S l v:=by
 refine ⟨h.wider hB,fun b hb hl hs=>?_⟩
 obtain ⟨o,len,cap,rfl,_,_,_,h4⟩:=h
 cases o with
 | none=>simp[Value.ownBlock] at hb
 | some a=>
  have e:a.block=b:=by simpa[Value.ownBlock] using hb
  have h1:=(h4.1 hl).2
  have h2:=hS b hs
  omega
theorem RCk.low {W:World} {base cb:Nat} {bsl:Value} {nc nk:Int} {fr:Bool} {size:Int} {l:List Int} {ok:Bool} (h:RCk W base cb bsl nc nk fr size l ok) {H:Nat} (h1:H≤base) (h2:H≤cb):∀b,SR cb bsl b→H≤b:=fun b hb=>by
 rcases hb with rfl | hb
 ·exact h2
 ·exact Nat.le_trans h1 (zao h.row hb)
theorem RCk.freed {W:World} {base cb:Nat} {bsl:Value} {nc nk:Int} {fr:Bool} {size:Int} {l:List Int} {ok:Bool} (h:RCk W base cb bsl nc nk fr size l ok):RCk (W.setCell ⟨cb,3,none⟩ (.bool true)) base cb bsl nc nk true size l ok:=
 ⟨h.box.set 3 _,zaV h.row _ _ (fun r hr e=>h.ne (by have e:r=cb:=e;rw[←e];exact hr)),h.ints⟩
def RSt (m:Mdl) (R:Bool) (j:Nat) (ok:Bool) (s:Int) (l:List Int):Prop:=
 (ok=true→(Mdl.rcodes m.consts.length m.codes.length (m.codes.drop j) (s,l)).isSome=R∧Trm.newB (fun _=>false) l=true∧0≤s∧s≤20000)∧(ok=false→R=false)
theorem zii {nc nk:Int} {cs:List Cod} {j:Nat} {c:Cod} {s:Int × List Int} (hc:cs[j]?=some c):Mdl.rcodes nc nk (cs.drop j) s=if (Trm.newB (fun _=>false) (s.2++c.v)&&(!c.rest || decide (0<c.v.length)))=true then (match Trm.rchk nc nk true c.body c.v 0 (s.1,s.2++c.v) with | some s'=>Mdl.rcodes nc nk (cs.drop (j+1)) s' | none=>none) else none:=by
 have hj:=(List.getElem?_eq_some_iff.1 hc).1
 have hd:cs.drop j=c::cs.drop (j+1):=by
  rw[List.drop_eq_getElem_cons hj,(List.getElem?_eq_some_iff.1 hc).2]
 rw[hd,Mdl.rcodes]
 rfl
def Mdl.slim (m:Mdl):Prop:=m.body.slim∧∀c∈m.codes,c.body.slim
theorem ziR (m:Mdl) (v:Value) (B:Nat) (w:World) (hv:MdlR w B m v) (hB:B≤w.heap.size) (hs:m.slim) (E:Int) (hE:(if m.rokB then (0:Int) else 5)=E) :
  Calls prog 17 #[v] w fun e w'=>e=.returned (.int .i64 E)∧Below w.heap.size w w':=by
 obtain ⟨cc,pp,b0,b1,b2,b3,rfl,hcon,hcod,hbody⟩:=hv
 obtain ⟨q,r,u,q',r',u',rfl,rfl,rfl,rfl,hbn⟩:=TrmR.shape hbody
 obtain ⟨oc,lc,kc,rfl⟩:∃o l c,cc=.slice o l c:=by obtain ⟨o,l,c,h,_⟩:=hcon;exact ⟨o,l,c,h⟩
 have hlc:lc=m.consts.length:=by
  obtain ⟨o,l,c,h,h2,_⟩:=hcon
  simp only[Value.slice.injEq] at h
  obtain ⟨rfl,rfl,rfl⟩:=h
  exact h2
 obtain ⟨op,lp,kp,rfl⟩:=hcod.form
 obtain ⟨hlp,hkp,hmp⟩:=hcod.lens
 obtain ⟨W1,hW1⟩:∃W1,w.alloc (.cells #[.slice oc lc kc,.slice op lp kp,.int .i64 m.body.op,.int .i64 m.body.n,.slice q r u,.slice q' r' u'] 29)=W1:=⟨_,rfl⟩
 have HW:=zh hW1
 have HB1:=zh (show Below w.heap.size w W1 from by rw[←hW1];exact Below.one w _)
 have HM1:=zh (show BoxL W1 w.heap.size 29 [.slice oc lc kc,.slice op lp kp,.int .i64 m.body.op,.int .i64 m.body.n,.slice q r u,.slice q' r' u'] from by rw[←hW1];exact BoxL.new rfl _ _)
 have hz1:W1.heap.size=w.heap.size+1:=by rw[←hW1];simp
 have HCON:=zh hcon
 have HCOD:=zh hcod
 have HBODY:=zh hbody
 have HLP:=zh hlp
 have HS:=zh hs
 obtain ⟨qc,hqc⟩:∃qc,(m.consts.all fun x=>Dat.right x 0)=qc:=⟨_,rfl⟩
 have HQC:=zh hqc
 obtain ⟨R,hR⟩:∃R,m.rokB=R:=⟨_,rfl⟩
 rw[hR] at hE
 have HR:=zh hR
 have HE:=zh hE
 have HNC:=zh hlc
 clear hcon hcod hbody hlp hW1 hqc hR hE hs hlc
 go_enter func17,ntmps17
 go_upto_region 1 with fail
 rw[HW.out]
 have HD:=zh ((Below.refl W1.heap.size W1).drew)
 refine zaa (Below W1.heap.size W1) 10 (by kernel_rfl) (by kernel_rfl) HD.out ?_
 intro T0 _ WW HWW HWW2
 have z0:∀t,(WW t).cell? _=_:=fun t=>((HWW t).cell (p:=⟨w.heap.size,0,none⟩) HM1.out.lt).trans (HM1.out.cell 0 rfl)
 have z1:∀t,(WW t).cell? _=_:=fun t=>((HWW t).cell (p:=⟨w.heap.size,1,none⟩) HM1.out.lt).trans (HM1.out.cell 1 rfl)
 have HCT:Hid (∀t,Calls prog 35 #[.slice oc lc kc] (WW t) fun e w'=>e=.returned (.bool qc)∧∃t',w'=WW t'):=zh (fun t=>zak HWW2 ((zeP m.consts (.slice oc lc kc) B (WW t) (HCON.out.kept ((HB1.out.trans ((HWW t).mono HB1.out.size)).mono hB)) (by have:=(HWW t).size;omega) qc HQC.out).mono fun e w' h=>⟨h.1,(HWW t).trans (h.2.mono (HWW t).size)⟩))
 have HWH:=zh HWW
 clear HWW HWW2
 simp only[List.take_succ_cons,List.take_zero,List.drop_succ_cons,List.drop_zero]
 repeat (go_big_quiet_step (first | (go_at_call 35;exact HCT.out _) | fail))
 refine wpQuiet_nil ?_
 intro t'
 obtain ⟨W2,hW2⟩:∃W2,WW t'=W2:=⟨_,rfl⟩
 have HB2:=zh (show Below W1.heap.size W1 W2 from hW2 ▸ HWH.out t')
 rw[hW2]
 clear z0 z1 HCT HWH hW2
 obtain ⟨cb,hcb⟩:∃cb,W2.heap.size=cb:=⟨_,rfl⟩
 obtain ⟨W3,hW3⟩:∃W3,W2.alloc (.cells #[.int .i64 3,.int .i64 lc,.int .i64 lp,.bool false,.int .i64 0,.slice none 0 0,.bool qc] 81)=W3:=⟨_,rfl⟩
 have HB3:=zh (show Below W1.heap.size W1 W3 from by rw[←hW3];exact Below.next HB2.out (Below.one W2 _))
 have hcb1:W1.heap.size≤cb:=by rw[←hcb];exact HB2.out.size
 have hz3:W3.heap.size=cb+1:=by rw[←hW3,←hcb];simp
 have HC3:=zh (show RCk W3 (cb+1) cb (.slice none 0 0) m.consts.length m.codes.length false 0 [] qc from ⟨by rw[←hW3,←hcb,←HNC.out,←HLP.out];exact BoxL.new rfl _ _,World.ownsRow_nil _ _ _ _,fun x hx=>by simp at hx⟩)
 have HM3:=zh (HM1.out.keep HB3.out)
 have HT3:=zh (show Turned (fun b=>w.heap.size+1≤b) W1 W3 from Turned.of_below HB3.out)
 have HWE:=zh hW3
 have HCB:=zh hcb
 clear hW3 hcb
 go_upto_region 2 with fail
 rw[HCB.out,HWE.out]
 have HRD:=zh (show R=(qc&&(match Trm.rchk m.consts.length m.codes.length false m.body [] 0 (0,[]) with | some s=>(Mdl.rcodes m.consts.length m.codes.length m.codes s).isSome | none=>false)) from by rw[←HR.out,Mdl.rokB,HQC.out];rfl)
 obtain ⟨rb,hrb⟩:∃rb,Trm.rchk m.consts.length m.codes.length false m.body [] 0 (0,[])=rb:=⟨_,rfl⟩
 rw[hrb] at HRD
 have HRB:=zh hrb
 clear hrb
 cases qc with
 | false=>
  have HTX:=HT3
  have HRX0:=zh (show RSt m R 0 false 0 [] from ⟨fun h=>(by cases h),fun _=>by rw[HRD.out];rfl⟩)
  have c6:=HC3.out.box.cell 6 rfl
  have cl:=HC3.out.box.lt
  go_upto_region 4 with fail
  clear c6 cl
  clear HRX0
  obtain rfl:R=false:=by rw[HRD.out];rfl
  obtain rfl:E=5:=by rw[←HE.out];rfl
  have c3:=HC3.out.box.cell 3 rfl
  have cz:=HC3.out.box.free 3
  have cl:=HC3.out.box.lt
  go_upto_region 5 with fail
  obtain ⟨W6,hW6⟩:∃W6,W3.setCell ⟨cb,3,none⟩ (.bool true)=W6:=⟨_,rfl⟩
  have HC6:=zh (show RCk W6 (cb+1) cb (.slice none 0 0) m.consts.length m.codes.length true 0 [] false from hW6 ▸ HC3.out.freed)
  have HT6:=zh (show Turned (fun b=>w.heap.size+1≤b) W1 W6 from hW6 ▸ HTX.out.next (Turned.set _ _ _ (by dsimp only;omega)))
  rw[hW6]
  clear c3 cz cl hW6
  have HM6:=zh (HT6.out.box HM1.out (by omega))
  have HBJ:=zh (show Below w.heap.size w W6 from HB1.out.trans (HT6.out.below (fun b hb=>by omega) (by omega)))
  have x1:=HM6.out.cell 1 rfl
  have xl:=HM6.out.lt
  have c6:=HC6.out.box.cell 6 rfl
  have cl:=HC6.out.box.lt
  go_wp2_with fail
  go_loopg [4] lp (fun g i wr=>g=lp∧i=.int .i64 0∧W6=wr)
  case atStart=>exact ⟨rfl,rfl,rfl⟩
  case round=>
   obtain ⟨hg0,rfl,rfl⟩:=hrel
   clear hg0
   by_cases hjl:0<lp
   ·go_wp2_with fail
    go_ret
    exact ⟨rfl,HBJ.out⟩
   ·obtain rfl:lp=0:=by omega
    go_wp2_with fail
    go_ret
    exact ⟨rfl,HBJ.out⟩
 | true=>
  have c6:=HC3.out.box.cell 6 rfl
  have cl:=HC3.out.box.lt
  have m2:=HM3.out.cell 2 rfl
  have m3:=HM3.out.cell 3 rfl
  have m4:=HM3.out.cell 4 rfl
  have m5:=HM3.out.cell 5 rfl
  have ml:=HM3.out.lt
  have HBW:=zh (show Below B w W3 from (HB1.out.trans (HB3.out.mono HB1.out.size)).mono hB)
  have hlow:=HC3.out.low (H:=w.heap.size+1) (by omega) (by omega)
  have HLO:=zh hlow
  have HTM:=zh (zc6 m.body _ _ _ _ B (cb+1) cb (.slice none 0 0) m.consts.length m.codes.length 0 false true [] [] (.slice none 0 0) 0 W3 (TrmR.kept HBW.out _ _ HBODY.out) HC3.out (IntsM.nil _ _) (fun b hb=>by have:=hlow b hb;omega) (by omega) (by omega) (fun _=>rfl) (fun _=>Nat.le_refl _) (by omega) (by omega) (by omega) (by omega) HS.out.1)
  clear hlow
  go_wp2_with fail
  with_reducible refine HTM.out.mono ?_
  intro e w5 hp5
  obtain ⟨rfl,bs0,hT5,_,hy5,hn5⟩:=hp5
  simp only[↓reduceIte] at hy5 hn5
  rw[HRB.out] at hy5 hn5
  have hrd:=HRD.out
  rw[Bool.true_and] at hrd
  obtain ⟨ok0,s0,l0,hc5,hr5⟩:∃ok0 s0 l0,RCk w5 (cb+1) cb bs0 m.consts.length m.codes.length false s0 l0 ok0∧RSt m R 0 ok0 s0 l0:=by
   cases rb with
   | none=>
    obtain ⟨s',l',h⟩:=hn5 rfl
    exact ⟨false,s',l',h,fun h=>(by cases h),fun _=>hrd⟩
   | some s'=>
    obtain ⟨_,he,g3,g4⟩:=Trm.rsay m.body _ _ _ _ _ _ _ rfl HRB.out
    have h1:0≤s'.1:=by rw[he];dsimp only;omega
    have h2:s'.1≤20000:=by rw[he];exact g4
    have h3:Trm.newB (fun _=>false) s'.2=true:=by rw[he];exact g3
    exact ⟨true,s'.1,s'.2,hy5 s' rfl,fun _=>⟨hrd.symm,h3,h1,h2⟩,fun h=>(by cases h)⟩
  have HCX:=zh hc5
  have HRX:=zh hr5
  have HTX:=zh (show Turned (fun b=>w.heap.size+1≤b) W1 w5 from HT3.out.next (hT5.wider fun b _ h=>HLO.out b h))
  clear hc5 hr5 hT5 hy5 hn5 hrd c6 cl m2 m3 m4 m5 ml HC3 HTM
  have c3:=HCX.out.box.cell 3 rfl
  have cz:=HCX.out.box.free 3
  have cl:=HCX.out.box.lt
  go_upto_region 5 with fail
  obtain ⟨W6,hW6⟩:∃W6,w5.setCell ⟨cb,3,none⟩ (.bool true)=W6:=⟨_,rfl⟩
  have HC6:=zh (show RCk W6 (cb+1) cb bs0 m.consts.length m.codes.length true s0 l0 ok0 from hW6 ▸ HCX.out.freed)
  have HT6:=zh (show Turned (fun b=>w.heap.size+1≤b) W1 W6 from hW6 ▸ HTX.out.next (Turned.set _ _ _ (by dsimp only;omega)))
  rw[hW6]
  clear c3 cz cl hW6
  have HM6:=zh (HT6.out.box HM1.out (by omega))
  have x1:=HM6.out.cell 1 rfl
  have xl:=HM6.out.lt
  go_wp2_with fail
  go_loopg [4] lp (fun g i wr=>∃(j:Nat) (bs:Value) (ok:Bool) (s:Int) (l:List Int),g=lp-j∧j≤lp∧i=.int .i64 j∧Hid (RCk wr (cb+1) cb bs m.consts.length m.codes.length true s l ok)∧Hid (Turned (fun b=>w.heap.size+1≤b) W1 wr)∧Hid (RSt m R j ok s l))
  case atStart=>exact ⟨0,bs0,ok0,s0,l0,rfl,by omega,rfl,HC6,HT6,HRX⟩
  case round=>
   obtain ⟨j,bs,ok,sj,lj,rfl,hj,rfl,HCJ,HTJ,HRJ⟩:=hrel
   clear x1 xl
   have HMJ:=zh (HTJ.out.box HM1.out (by omega))
   have x1:=HMJ.out.cell 1 rfl
   have xl:=HMJ.out.lt
   have c6:=HCJ.out.box.cell 6 rfl
   have cl:=HCJ.out.box.lt
   have HBJ:=zh (show Below w.heap.size w wr from HB1.out.trans (HTJ.out.below (fun b hb=>by omega) (by omega)))
   cases ok with
   | false=>
    obtain rfl:R=false:=HRJ.out.2 rfl
    obtain rfl:E=5:=by rw[←HE.out];rfl
    by_cases hjl:j<lp
    ·go_wp2_with fail
     go_ret
     exact ⟨rfl,HBJ.out⟩
    ·go_wp2_with fail
     go_ret
     exact ⟨rfl,HBJ.out⟩
   | true=>
    obtain ⟨r1,r2,r3,r4⟩:=HRJ.out.1 rfl
    have HR1:=zh r1
    have HR2:=zh r2
    clear r1 r2
    by_cases hjl:j<lp
    ·obtain ⟨c,hc⟩:∃c,m.codes[j]?=some c:=⟨_,List.getElem?_eq_getElem (by rw[←HLP.out];exact hjl)⟩
     obtain ⟨tb,toff,cs,hto,htb,hcl,hcell,hcr⟩:=HCOD.out.at (HBJ.out.mono hB) hc
     subst hto
     obtain ⟨ov,lv,cvv,q1,r1,u1,q2,r2,u2,rfl,hsv,hst⟩:=zd6 hcr
     have e0:=hcell 0 _ rfl
     have e1:=hcell 1 _ rfl
     have e2:=hcell 2 _ rfl
     have e3:=hcell 3 _ rfl
     have e4:=hcell 4 _ rfl
     have e5:=hcell 5 _ rfl
     rw[Nat.add_zero] at e0
     have hel:=zac e0
     have HC0:=zh hc
     have HCL0:=zh (show ∀i x,([.slice ov lv cvv,.bool c.rest,.int .i64 c.body.op,.int .i64 c.body.n,.slice q1 r1 u1,.slice q2 r2 u2]:List Value)[i]?=some x→w.cell? ⟨tb,toff+j*6+i,none⟩=some x from fun i x hx=>((HBJ.out.mono hB).cell (p:=⟨tb,toff+j*6+i,none⟩) htb).symm.trans (hcell i x hx))
     have HSV:=zh hsv
     have HST:=zh hst
     have HLV:=zh hsv.lens.1
     have HSLM:=zh (HS.out.2 c (List.mem_of_getElem? hc))
     have HAT:=zh (show (if (Trm.newB (fun _=>false) (lj++c.v)&&(!c.rest || decide (0<c.v.length)))=true then (match Trm.rchk m.consts.length m.codes.length true c.body c.v 0 (sj,lj++c.v) with | some s'=>Mdl.rcodes m.consts.length m.codes.length (m.codes.drop (j+1)) s' | none=>none) else none).isSome=R from by rw[←HR1.out,zii hc])
     have hlowJ:=HCJ.out.low (H:=w.heap.size+1) (by omega) (by omega)
     have HLJ:=zh hlowJ
     have hbw:w.heap.size+1≤wr.heap.size:=by have:=HTJ.out.size;omega
     have HBD:=zh (zew (cb+1) cb bs m.consts.length m.codes.length sj true lj c.v ov lv cvv B wr HCJ.out (hsv.kept (HBJ.out.mono hB) fun _ _ _ h=>h) (by omega) (fun b hb=>by have:=hlowJ b hb;omega) ⟨by omega,by have:=HCJ.out.box.lt;omega⟩ HR2.out)
     clear hc hcell hcl hcr hsv hst hlowJ
     go_wp2_with fail
     with_reducible refine HBD.out.mono ?_
     intro e w4 hp4
     obtain ⟨rfl,bs4,hT4,hL4,hy4,hn4⟩:=hp4
     obtain ⟨qb,hqb⟩:∃qb,Trm.newB (fun _=>false) (lj++c.v)=qb:=⟨_,rfl⟩
     rw[hqb] at hy4 hn4
     obtain ⟨s4,l4,hc4,hs4⟩:∃s4 l4,RCk w4 (cb+1) cb bs4 m.consts.length m.codes.length true s4 l4 qb∧(qb=true→s4=sj∧l4=lj++c.v):=by
      cases qb with
      | true=>exact ⟨_,_,hy4 rfl,fun _=>⟨rfl,rfl⟩⟩
      | false=>
       obtain ⟨s',l',h⟩:=hn4 rfl
       exact ⟨s',l',h,fun h=>(by cases h)⟩
     have HQB:=zh hqb
     have HC4:=zh hc4
     have HSS:=zh hs4
     have HT4:=zh (show Turned (fun b=>w.heap.size+1≤b) W1 w4 from HTJ.out.next (hT4.wider fun b _ h=>HLJ.out b h))
     clear hqb hc4 hs4 hT4 hL4 hy4 hn4 HBD x1 xl c6 cl e0 e1 e2 e3 e4 e5 hel
     have HM4:=zh (HT4.out.box HM1.out (by omega))
     have HB4:=zh (show Below w.heap.size w w4 from HB1.out.trans (HT4.out.below (fun b hb=>by omega) (by omega)))
     have HBM:=zh (HB4.out.mono hB)
     have hcells:∀(wx:World),Below B w wx→∃cs,cs=[.slice ov lv cvv,.bool c.rest,.int .i64 c.body.op,.int .i64 c.body.n,.slice q1 r1 u1,.slice q2 r2 u2]∧∀i x,cs[i]?=some x→wx.cell? ⟨tb,toff+j*6+i,none⟩=some x:=fun wx hb=>⟨_,rfl,fun i x hx=>(hb.cell (p:=⟨tb,toff+j*6+i,none⟩) htb).trans (HCL0.out i x hx)⟩
     have HCE:=zh (show ∀(wx:World),Below B w wx→wx.cell? ⟨tb,toff+j*6,none⟩=some (.slice ov lv cvv)∧wx.cell? ⟨tb,toff+j*6+1,none⟩=some (.bool c.rest)∧wx.cell? ⟨tb,toff+j*6+2,none⟩=some (.int .i64 c.body.op)∧wx.cell? ⟨tb,toff+j*6+3,none⟩=some (.int .i64 c.body.n)∧wx.cell? ⟨tb,toff+j*6+4,none⟩=some (.slice q1 r1 u1)∧wx.cell? ⟨tb,toff+j*6+5,none⟩=some (.slice q2 r2 u2) from fun wx hb=>by
      obtain ⟨cs,rfl,h⟩:=hcells wx hb
      exact ⟨h 0 _ rfl,h 1 _ rfl,h 2 _ rfl,h 3 _ rfl,h 4 _ rfl,h 5 _ rfl⟩)
     clear hcells
     obtain ⟨e0,e1,_,_,_,_⟩:=HCE.out w4 HBM.out
     have hel:=zac e0
     have x1:=HM4.out.cell 1 rfl
     have xl:=HM4.out.lt
     have c6:=HC4.out.box.cell 6 rfl
     have cz:=HC4.out.box.free 6
     have cl:=HC4.out.box.lt
     cases qb with
     | false=>
      go_upto_region 10 with fail
      obtain ⟨W5,hW5⟩:∃W5,w4.setCell ⟨cb,6,none⟩ (.bool false)=W5:=⟨_,rfl⟩
      have HC5:=zh (hW5 ▸ HC4.out.failed false)
      have HT5:=zh (show Turned (fun b=>w.heap.size+1≤b) W1 W5 from hW5 ▸ HT4.out.next (Turned.set _ ⟨cb,6,none⟩ _ (by dsimp only;omega)))
      rw[hW5]
      clear hW5 e0 e1 hel x1 xl c6 cz cl
      have c6:=HC5.out.box.cell 6 rfl
      have cl:=HC5.out.box.lt
      obtain rfl:R=false:=by
       have h:=HAT.out
       rw[HQB.out,Bool.false_and,if_neg (by decide)] at h
       simpa using h.symm
      go_wp2_with fail
      go_roundg (lp-(j+1))
      case measure=>omega
      case rel=>exact ⟨j+1,bs4,false,s4,l4,rfl,by omega,by go_num,HC5,HT5,zh ⟨fun h=>(by cases h),fun _=>rfl⟩⟩
     | true=>
      cases hrs:c.rest with
      | false=>
       rw[hrs] at e1
       have HRS:=zh hrs
       clear hrs
       go_upto_region 10 with fail
       obtain ⟨W5,hW5⟩:∃W5,w4.setCell ⟨cb,6,none⟩ (.bool true)=W5:=⟨_,rfl⟩
       have HC5:=zh (hW5 ▸ HC4.out.failed true)
       have HT5:=zh (show Turned (fun b=>w.heap.size+1≤b) W1 W5 from hW5 ▸ HT4.out.next (Turned.set _ ⟨cb,6,none⟩ _ (by dsimp only;omega)))
       rw[hW5]
       clear hW5 e0 e1 hel x1 xl c6 cz cl
       have c6:=HC5.out.box.cell 6 rfl
       have cl:=HC5.out.box.lt
       obtain ⟨hse,hle⟩:=HSS.out (by simp)
       have HC6:=HC5
       rw[hse,hle] at HC6
       clear hse hle HC5
       have HRT:=zh (show (match Trm.rchk m.consts.length m.codes.length true c.body c.v 0 (sj,lj++c.v) with | some s'=>Mdl.rcodes m.consts.length m.codes.length (m.codes.drop (j+1)) s' | none=>none).isSome=R from by
        have h:=HAT.out
        rw[HQB.out,HRS.out,if_pos (by simp)] at h
        exact h)
       go_upto_region 11 with fail
       clear c6 cl
       have HB5:=zh (show Below w.heap.size w W5 from HB1.out.trans (HT5.out.below (fun b hb=>by omega) (by omega)))
       have HM5:=zh (HT5.out.box HM1.out (by omega))
       have HD5:=zh ((Below.refl W5.heap.size W5).drew)
       have hz5:w.heap.size+1≤W5.heap.size:=by have:=HT5.out.size;omega
       have HTM:=zh (fun (W6:World) (hb:Below W5.heap.size W5 W6)=>zc6 c.body _ _ _ _ B (cb+1) cb bs4 m.consts.length m.codes.length sj true true (lj++c.v) c.v (.slice ov lv cvv) 0 W6 (TrmR.kept ((HB5.out.mono hB).trans (hb.mono (by omega))) _ _ HST.out) (HC6.out.keep hb) (IntsM.of_low (HSV.out.kept ((HB5.out.mono hB).trans (hb.mono (by omega))) fun _ _ _ h=>h) (by have:=hb.size;omega) (fun b hs=>by have:=HC6.out.low (H:=w.heap.size+1) (by omega) (by omega) b hs;omega)) (fun b hs=>by have:=HC6.out.low (H:=w.heap.size+1) (by omega) (by omega) b hs;omega) (by omega) (by have:=HC6.out.box.lt;have:=hb.size;omega) (fun _=>HQB.out) (fun _=>by simp) r3 r4 (by omega) (by omega) HSLM.out)
       obtain ⟨e0,e1,e2,e3,e4,e5⟩:=HCE.out W5 (HB5.out.mono hB)
       have hel:=zac e0
       refine zaa (Below W5.heap.size W5) 13 (by kernel_rfl) (by kernel_rfl) HD5.out ?_
       intro T0 _ WW HWW HWW2
       have z1:∀t,(WW t).cell? _=_:=fun t=>((HWW t).cell (p:=⟨w.heap.size,1,none⟩) HM5.out.lt).trans (HM5.out.cell 1 rfl)
       have y0:∀t,(WW t).cell? _=_:=fun t=>((HWW t).cell (p:=⟨tb,toff+j*6,none⟩) hel).trans e0
       have y2:∀t,(WW t).cell? _=_:=fun t=>((HWW t).cell (p:=⟨tb,toff+j*6+2,none⟩) hel).trans e2
       have y3:∀t,(WW t).cell? _=_:=fun t=>((HWW t).cell (p:=⟨tb,toff+j*6+3,none⟩) hel).trans e3
       have y4:∀t,(WW t).cell? _=_:=fun t=>((HWW t).cell (p:=⟨tb,toff+j*6+4,none⟩) hel).trans e4
       have y5:∀t,(WW t).cell? _=_:=fun t=>((HWW t).cell (p:=⟨tb,toff+j*6+5,none⟩) hel).trans e5
       have HWH:=zh HWW
       clear HWW HWW2
       simp only[List.take_succ_cons,List.take_zero,List.drop_succ_cons,List.drop_zero]
       repeat (go_big_quiet_step (fail))
       refine wpQuiet_nil ?_
       intro t'
       obtain ⟨W6,hW6⟩:∃W6,WW t'=W6:=⟨_,rfl⟩
       have HB6:=zh (show Below W5.heap.size W5 W6 from hW6 ▸ HWH.out t')
       rw[hW6]
       clear z1 y0 y2 y3 y4 y5 HWH hW6 e0 e1 e2 e3 e4 e5 hel
       have HL:=zh (HTM.out W6 HB6.out)
       have HLO:=zh ((HC6.out.keep HB6.out).low (H:=w.heap.size+1) (by omega) (by omega))
       go_wp2_with fail
       with_reducible refine HL.out.mono ?_
       intro e w7 hp7
       obtain ⟨rfl,bs7,hT7,_,hy7,hn7⟩:=hp7
       simp only[↓reduceIte] at hy7 hn7
       have HT7:=zh (show Turned (fun b=>w.heap.size+1≤b) W1 w7 from (HT5.out.next (Turned.of_below HB6.out)).next (hT7.wider fun b _ h=>HLO.out b h))
       obtain ⟨ok7,s7,l7,hc7,hr7⟩:∃ok7 s7 l7,RCk w7 (cb+1) cb bs7 m.consts.length m.codes.length true s7 l7 ok7∧RSt m R (j+1) ok7 s7 l7:=by
        have hrt:=HRT.out
        cases hrb:Trm.rchk m.consts.length m.codes.length true c.body c.v 0 (sj,lj++c.v) with
        | none=>
         rw[hrb] at hn7 hrt
         obtain ⟨s',l',h⟩:=hn7 rfl
         exact ⟨false,s',l',h,fun h=>(by cases h),fun _=>hrt.symm⟩
        | some s'=>
         rw[hrb] at hy7 hrt
         obtain ⟨_,he,g3,g4⟩:=Trm.rsay c.body _ _ _ _ _ _ _ HQB.out hrb
         have h1:0≤s'.1:=by rw[he];dsimp only;omega
         have h2:s'.1≤20000:=by rw[he];exact g4
         have h3:Trm.newB (fun _=>false) s'.2=true:=by rw[he];exact g3
         exact ⟨true,s'.1,s'.2,hy7 s' rfl,fun _=>⟨hrt,h3,h1,h2⟩,fun h=>(by cases h)⟩
       have HC7:=zh hc7
       have HR7:=zh hr7
       clear hc7 hr7 hT7 hy7 hn7 HL HTM
       go_wp2_with fail
       go_roundg (lp-(j+1))
       case measure=>omega
       case rel=>exact ⟨j+1,bs7,ok7,s7,l7,rfl,by omega,by go_num,HC7,HT7,HR7⟩
      | true=>
       rw[hrs] at e1
       have HRS:=zh hrs
       clear hrs
       by_cases hlv0:0<lv
       ·have g0:decide ((0:Int)<(lv:Int))=true:=decide_eq_true (by omega)
        go_upto_region 10 with fail
        obtain ⟨W5,hW5⟩:∃W5,w4.setCell ⟨cb,6,none⟩ (.bool true)=W5:=⟨_,rfl⟩
        have HC5:=zh (hW5 ▸ HC4.out.failed true)
        have HT5:=zh (show Turned (fun b=>w.heap.size+1≤b) W1 W5 from hW5 ▸ HT4.out.next (Turned.set _ ⟨cb,6,none⟩ _ (by dsimp only;omega)))
        rw[hW5]
        clear hW5 e0 e1 hel x1 xl c6 cz cl
        have c6:=HC5.out.box.cell 6 rfl
        have cl:=HC5.out.box.lt
        obtain ⟨hse,hle⟩:=HSS.out (by simp)
        have HC6:=HC5
        rw[hse,hle] at HC6
        clear hse hle HC5
        have HRT:=zh (show (match Trm.rchk m.consts.length m.codes.length true c.body c.v 0 (sj,lj++c.v) with | some s'=>Mdl.rcodes m.consts.length m.codes.length (m.codes.drop (j+1)) s' | none=>none).isSome=R from by
         have h:=HAT.out
         rw[HQB.out,HRS.out,if_pos (by rw[decide_eq_true (by rw[←HLV.out];exact hlv0)];rfl)] at h
         exact h)
        go_upto_region 11 with fail
        clear c6 cl
        have HB5:=zh (show Below w.heap.size w W5 from HB1.out.trans (HT5.out.below (fun b hb=>by omega) (by omega)))
        have HM5:=zh (HT5.out.box HM1.out (by omega))
        have HD5:=zh ((Below.refl W5.heap.size W5).drew)
        have hz5:w.heap.size+1≤W5.heap.size:=by have:=HT5.out.size;omega
        have HTM:=zh (fun (W6:World) (hb:Below W5.heap.size W5 W6)=>zc6 c.body _ _ _ _ B (cb+1) cb bs4 m.consts.length m.codes.length sj true true (lj++c.v) c.v (.slice ov lv cvv) 0 W6 (TrmR.kept ((HB5.out.mono hB).trans (hb.mono (by omega))) _ _ HST.out) (HC6.out.keep hb) (IntsM.of_low (HSV.out.kept ((HB5.out.mono hB).trans (hb.mono (by omega))) fun _ _ _ h=>h) (by have:=hb.size;omega) (fun b hs=>by have:=HC6.out.low (H:=w.heap.size+1) (by omega) (by omega) b hs;omega)) (fun b hs=>by have:=HC6.out.low (H:=w.heap.size+1) (by omega) (by omega) b hs;omega) (by omega) (by have:=HC6.out.box.lt;have:=hb.size;omega) (fun _=>HQB.out) (fun _=>by simp) r3 r4 (by omega) (by omega) HSLM.out)
        obtain ⟨e0,e1,e2,e3,e4,e5⟩:=HCE.out W5 (HB5.out.mono hB)
        have hel:=zac e0
        refine zaa (Below W5.heap.size W5) 13 (by kernel_rfl) (by kernel_rfl) HD5.out ?_
        intro T0 _ WW HWW HWW2
        have z1:∀t,(WW t).cell? _=_:=fun t=>((HWW t).cell (p:=⟨w.heap.size,1,none⟩) HM5.out.lt).trans (HM5.out.cell 1 rfl)
        have y0:∀t,(WW t).cell? _=_:=fun t=>((HWW t).cell (p:=⟨tb,toff+j*6,none⟩) hel).trans e0
        have y2:∀t,(WW t).cell? _=_:=fun t=>((HWW t).cell (p:=⟨tb,toff+j*6+2,none⟩) hel).trans e2
        have y3:∀t,(WW t).cell? _=_:=fun t=>((HWW t).cell (p:=⟨tb,toff+j*6+3,none⟩) hel).trans e3
        have y4:∀t,(WW t).cell? _=_:=fun t=>((HWW t).cell (p:=⟨tb,toff+j*6+4,none⟩) hel).trans e4
        have y5:∀t,(WW t).cell? _=_:=fun t=>((HWW t).cell (p:=⟨tb,toff+j*6+5,none⟩) hel).trans e5
        have HWH:=zh HWW
        clear HWW HWW2
        simp only[List.take_succ_cons,List.take_zero,List.drop_succ_cons,List.drop_zero]
        repeat (go_big_quiet_step (fail))
        refine wpQuiet_nil ?_
        intro t'
        obtain ⟨W6,hW6⟩:∃W6,WW t'=W6:=⟨_,rfl⟩
        have HB6:=zh (show Below W5.heap.size W5 W6 from hW6 ▸ HWH.out t')
        rw[hW6]
        clear z1 y0 y2 y3 y4 y5 HWH hW6 e0 e1 e2 e3 e4 e5 hel
        have HL:=zh (HTM.out W6 HB6.out)
        have HLO:=zh ((HC6.out.keep HB6.out).low (H:=w.heap.size+1) (by omega) (by omega))
        go_wp2_with fail
        with_reducible refine HL.out.mono ?_
        intro e w7 hp7
        obtain ⟨rfl,bs7,hT7,_,hy7,hn7⟩:=hp7
        simp only[↓reduceIte] at hy7 hn7
        have HT7:=zh (show Turned (fun b=>w.heap.size+1≤b) W1 w7 from (HT5.out.next (Turned.of_below HB6.out)).next (hT7.wider fun b _ h=>HLO.out b h))
        obtain ⟨ok7,s7,l7,hc7,hr7⟩:∃ok7 s7 l7,RCk w7 (cb+1) cb bs7 m.consts.length m.codes.length true s7 l7 ok7∧RSt m R (j+1) ok7 s7 l7:=by
         have hrt:=HRT.out
         cases hrb:Trm.rchk m.consts.length m.codes.length true c.body c.v 0 (sj,lj++c.v) with
         | none=>
          rw[hrb] at hn7 hrt
          obtain ⟨s',l',h⟩:=hn7 rfl
          exact ⟨false,s',l',h,fun h=>(by cases h),fun _=>hrt.symm⟩
         | some s'=>
          rw[hrb] at hy7 hrt
          obtain ⟨_,he,g3,g4⟩:=Trm.rsay c.body _ _ _ _ _ _ _ HQB.out hrb
          have h1:0≤s'.1:=by rw[he];dsimp only;omega
          have h2:s'.1≤20000:=by rw[he];exact g4
          have h3:Trm.newB (fun _=>false) s'.2=true:=by rw[he];exact g3
          exact ⟨true,s'.1,s'.2,hy7 s' rfl,fun _=>⟨hrt,h3,h1,h2⟩,fun h=>(by cases h)⟩
        have HC7:=zh hc7
        have HR7:=zh hr7
        clear hc7 hr7 hT7 hy7 hn7 HL HTM
        go_wp2_with fail
        go_roundg (lp-(j+1))
        case measure=>omega
        case rel=>exact ⟨j+1,bs7,ok7,s7,l7,rfl,by omega,by go_num,HC7,HT7,HR7⟩
       ·have g0:decide ((0:Int)<(lv:Int))=false:=decide_eq_false (by omega)
        go_upto_region 10 with fail
        obtain ⟨W5,hW5⟩:∃W5,w4.setCell ⟨cb,6,none⟩ (.bool false)=W5:=⟨_,rfl⟩
        have HC5:=zh (hW5 ▸ HC4.out.failed false)
        have HT5:=zh (show Turned (fun b=>w.heap.size+1≤b) W1 W5 from hW5 ▸ HT4.out.next (Turned.set _ ⟨cb,6,none⟩ _ (by dsimp only;omega)))
        rw[hW5]
        clear hW5 e0 e1 hel x1 xl c6 cz cl
        have c6:=HC5.out.box.cell 6 rfl
        have cl:=HC5.out.box.lt
        obtain rfl:R=false:=by
         have h:=HAT.out
         rw[HQB.out,HRS.out,if_neg (by rw[decide_eq_false (by rw[←HLV.out];exact hlv0)];decide)] at h
         simpa using h.symm
        go_wp2_with fail
        go_roundg (lp-(j+1))
        case measure=>omega
        case rel=>exact ⟨j+1,bs4,false,s4,l4,rfl,by omega,by go_num,HC5,HT5,zh ⟨fun h=>(by cases h),fun _=>rfl⟩⟩
    ·obtain rfl:j=lp:=by omega
     obtain rfl:R=true:=by
      rw[←HR1.out,List.drop_eq_nil_of_le (by rw[←HLP.out];exact Nat.le_refl _),Mdl.rcodes]
      rfl
     obtain rfl:E=0:=by rw[←HE.out];rfl
     go_wp2_with fail
     go_ret
     exact ⟨rfl,HBJ.out⟩
end
end Go.Proofs.YtdcajmeeeoofgaaGreatDoor
