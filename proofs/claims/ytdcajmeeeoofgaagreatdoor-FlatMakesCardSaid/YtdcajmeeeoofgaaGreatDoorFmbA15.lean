/- .. -/
import Derived.BigQuiet
import Derived.Test.YtdcajmeeeoofgaaGreatDoorFmbA14
open Go.Proofs.Tryz
set_option maxRecDepth 100000
set_option maxHeartbeats 16000000
namespace Go.Proofs.YtdcajmeeeoofgaaGreatDoor
section
open Go Go.RowKit
theorem ziA (cb:Nat) (nc nk size:Int) (fr ok:Bool) (bsl:Value) (n:Int) (ov ot:Option Addr) (lv cv lt ct:Nat) (l:List Int) (sl:Value) (B:Nat) (w:World) (hc:BoxL w cb 81 [.int .i64 3,.int .i64 nc,.int .i64 nk,.bool fr,.int .i64 size,bsl,.bool ok]) (hs:SlC w B 1 IntR l sl) (_hB:B≤w.heap.size) :
  Calls prog 72 #[.pointer (some ⟨cb,0,none⟩),.agg #[.int .i64 0,.int .i64 n,.slice ov lv cv,.slice ot lt ct],sl] w fun e w'=>e=.returned (.bool (Trm.numberB nc nk fr (fun v=>l.contains v) 0 n))∧Below w.heap.size w w':=by
 obtain ⟨os,ls,cs,rfl⟩:=hs.form
 rw[show Trm.numberB nc nk fr (fun v=>l.contains v) 0 n=(decide (0≤n)&&decide (n<nc)) from rfl]
 obtain ⟨W1,hW1⟩:∃W1,w.alloc (.cells #[.int .i64 0,.int .i64 n,.slice ov lv cv,.slice ot lt ct] 27)=W1:=⟨_,rfl⟩
 have HW:=zh hW1
 have HB1:=zh (show Below w.heap.size w W1 from by rw[←hW1];exact Below.one w _)
 have HX1:=zh (show BoxL W1 w.heap.size 27 [.int .i64 0,.int .i64 n,.slice ov lv cv,.slice ot lt ct] from by rw[←hW1];exact BoxL.new rfl _ _)
 have HC1:=zh (hc.keep HB1.out)
 clear hW1 hs
 have HD:=zh ((Below.refl W1.heap.size W1).drew)
 cases h:decide (0≤n) with
 | false=>
  have x0:=HX1.out.cell 0 rfl
  have x1:=HX1.out.cell 1 rfl
  have xl:=HX1.out.lt
  go_enter func72,ntmps72
  go_upto_region 1 with fail
  rw[HW.out]
  go_upto_region 3 with fail
  clear x0 x1 xl
  refine zab (Below W1.heap.size W1) (by kernel_rfl) (by kernel_rfl) HD.out ?_
  intro T0 _ WW HWW HWW2
  have y1:∀t,(WW t).cell? _=_:=fun t=>((HWW t).cell (p:=⟨w.heap.size,1,none⟩) HX1.out.lt).trans (HX1.out.cell 1 rfl)
  have HWH:=zh HWW
  clear HWW HWW2
  repeat (go_big_quiet_step (fail))
  refine wpQuiet_nil ?_
  intro t'
  have HF:=zh (HB1.out.trans ((HWH.out t').mono HB1.out.size))
  clear y1 HWH
  go_wp2_with fail
  go_ret
  exact ⟨rfl,HF.out⟩
 | true=>
  have x0:=HX1.out.cell 0 rfl
  have x1:=HX1.out.cell 1 rfl
  have xl:=HX1.out.lt
  go_enter func72,ntmps72
  go_upto_region 1 with fail
  rw[HW.out]
  go_upto_region 3 with fail
  clear x0 x1 xl
  refine zab (Below W1.heap.size W1) (by kernel_rfl) (by kernel_rfl) HD.out ?_
  intro T0 _ WW HWW HWW2
  have y1:∀t,(WW t).cell? _=_:=fun t=>((HWW t).cell (p:=⟨w.heap.size,1,none⟩) HX1.out.lt).trans (HX1.out.cell 1 rfl)
  have z1:∀t,(WW t).cell? _=_:=fun t=>((HWW t).cell (p:=⟨cb,1,none⟩) HC1.out.lt).trans (HC1.out.cell 1 rfl)
  have HWH:=zh HWW
  clear HWW HWW2
  repeat (go_big_quiet_step (fail))
  refine wpQuiet_nil ?_
  intro t'
  have HF:=zh (HB1.out.trans ((HWH.out t').mono HB1.out.size))
  clear y1 z1 HWH
  go_wp2_with fail
  go_ret
  exact ⟨rfl,HF.out⟩
theorem ziv (cb:Nat) (nc nk size:Int) (fr ok:Bool) (bsl:Value) (n:Int) (ov ot:Option Addr) (lv cv lt ct:Nat) (l:List Int) (sl:Value) (B:Nat) (w:World) (hc:BoxL w cb 81 [.int .i64 3,.int .i64 nc,.int .i64 nk,.bool fr,.int .i64 size,bsl,.bool ok]) (hs:SlC w B 1 IntR l sl) (hB:B≤w.heap.size) :
  Calls prog 72 #[.pointer (some ⟨cb,0,none⟩),.agg #[.int .i64 1,.int .i64 n,.slice ov lv cv,.slice ot lt ct],sl] w fun e w'=>e=.returned (.bool (Trm.numberB nc nk fr (fun v=>l.contains v) 1 n))∧Below w.heap.size w w':=by
 obtain ⟨os,ls,cs,rfl⟩:=hs.form
 rw[show Trm.numberB nc nk fr (fun v=>l.contains v) 1 n=l.contains n from rfl]
 obtain ⟨W1,hW1⟩:∃W1,w.alloc (.cells #[.int .i64 1,.int .i64 n,.slice ov lv cv,.slice ot lt ct] 27)=W1:=⟨_,rfl⟩
 have HW:=zh hW1
 have HB1:=zh (show Below w.heap.size w W1 from by rw[←hW1];exact Below.one w _)
 have HX1:=zh (show BoxL W1 w.heap.size 27 [.int .i64 1,.int .i64 n,.slice ov lv cv,.slice ot lt ct] from by rw[←hW1];exact BoxL.new rfl _ _)
 have HC1:=zh (hc.keep HB1.out)
 clear hW1
 obtain ⟨r,hr⟩:∃r,l.contains n=r:=⟨_,rfl⟩
 rw[hr]
 have HH:=zh (zdE l (.slice os ls cs) n B W1 (hs.kept (HB1.out.mono hB) fun _ _ _ h=>h) (by have:=HB1.out.size;omega) r hr)
 have x0:=HX1.out.cell 0 rfl
 have x1:=HX1.out.cell 1 rfl
 have xl:=HX1.out.lt
 clear hs hr
 go_enter func72,ntmps72
 go_upto_region 1 with fail
 rw[HW.out]
 go_wp2_with fail
 with_reducible refine HH.out.mono ?_
 rintro e w2 ⟨rfl,hb2⟩
 have HF:=zh (HB1.out.trans (hb2.mono HB1.out.size))
 clear hb2 HH x0 x1 xl
 go_wp2_with fail
 go_ret
 exact ⟨rfl,HF.out⟩
theorem zhv (cb:Nat) (nc nk size:Int) (fr ok:Bool) (bsl:Value) (n:Int) (ov ot:Option Addr) (lv cv lt ct:Nat) (l:List Int) (sl:Value) (B:Nat) (w:World) (hc:BoxL w cb 81 [.int .i64 3,.int .i64 nc,.int .i64 nk,.bool fr,.int .i64 size,bsl,.bool ok]) (hs:SlC w B 1 IntR l sl) (_hB:B≤w.heap.size) :
  Calls prog 72 #[.pointer (some ⟨cb,0,none⟩),.agg #[.int .i64 3,.int .i64 n,.slice ov lv cv,.slice ot lt ct],sl] w fun e w'=>e=.returned (.bool (Trm.numberB nc nk fr (fun v=>l.contains v) 3 n))∧Below w.heap.size w w':=by
 obtain ⟨os,ls,cs,rfl⟩:=hs.form
 rw[show Trm.numberB nc nk fr (fun v=>l.contains v) 3 n=decide (n=0) from rfl]
 have g:(n==0)=decide (n=0):=by rw[Bool.eq_iff_iff];simp
 obtain ⟨W1,hW1⟩:∃W1,w.alloc (.cells #[.int .i64 3,.int .i64 n,.slice ov lv cv,.slice ot lt ct] 27)=W1:=⟨_,rfl⟩
 have HW:=zh hW1
 have HB1:=zh (show Below w.heap.size w W1 from by rw[←hW1];exact Below.one w _)
 have HX1:=zh (show BoxL W1 w.heap.size 27 [.int .i64 3,.int .i64 n,.slice ov lv cv,.slice ot lt ct] from by rw[←hW1];exact BoxL.new rfl _ _)
 have HC1:=zh (hc.keep HB1.out)
 clear hW1 hs
 have x0:=HX1.out.cell 0 rfl
 have x1:=HX1.out.cell 1 rfl
 have xl:=HX1.out.lt
 have y3:=HC1.out.cell 3 rfl
 have yl:=HC1.out.lt
 go_enter func72,ntmps72
 go_upto_region 1 with fail
 rw[HW.out]
 go_wp2_with fail
 go_ret
 exact ⟨rfl,HB1.out⟩
theorem zhB (cb:Nat) (nc nk size:Int) (fr ok:Bool) (bsl:Value) (n:Int) (ov ot:Option Addr) (lv cv lt ct:Nat) (l:List Int) (sl:Value) (B:Nat) (w:World) (hc:BoxL w cb 81 [.int .i64 3,.int .i64 nc,.int .i64 nk,.bool fr,.int .i64 size,bsl,.bool ok]) (hs:SlC w B 1 IntR l sl) (_hB:B≤w.heap.size) :
  Calls prog 72 #[.pointer (some ⟨cb,0,none⟩),.agg #[.int .i64 5,.int .i64 n,.slice ov lv cv,.slice ot lt ct],sl] w fun e w'=>e=.returned (.bool (Trm.numberB nc nk fr (fun v=>l.contains v) 5 n))∧Below w.heap.size w w':=by
 obtain ⟨os,ls,cs,rfl⟩:=hs.form
 rw[show Trm.numberB nc nk fr (fun v=>l.contains v) 5 n=decide (n=0) from rfl]
 have g:(n==0)=decide (n=0):=by rw[Bool.eq_iff_iff];simp
 obtain ⟨W1,hW1⟩:∃W1,w.alloc (.cells #[.int .i64 5,.int .i64 n,.slice ov lv cv,.slice ot lt ct] 27)=W1:=⟨_,rfl⟩
 have HW:=zh hW1
 have HB1:=zh (show Below w.heap.size w W1 from by rw[←hW1];exact Below.one w _)
 have HX1:=zh (show BoxL W1 w.heap.size 27 [.int .i64 5,.int .i64 n,.slice ov lv cv,.slice ot lt ct] from by rw[←hW1];exact BoxL.new rfl _ _)
 have HC1:=zh (hc.keep HB1.out)
 clear hW1 hs
 have x0:=HX1.out.cell 0 rfl
 have x1:=HX1.out.cell 1 rfl
 have xl:=HX1.out.lt
 have y3:=HC1.out.cell 3 rfl
 have yl:=HC1.out.lt
 go_enter func72,ntmps72
 go_upto_region 1 with fail
 rw[HW.out]
 go_wp2_with fail
 go_ret
 exact ⟨rfl,HB1.out⟩
theorem zhR (cb:Nat) (nc nk size:Int) (fr ok:Bool) (bsl:Value) (n:Int) (ov ot:Option Addr) (lv cv lt ct:Nat) (l:List Int) (sl:Value) (B:Nat) (w:World) (hc:BoxL w cb 81 [.int .i64 3,.int .i64 nc,.int .i64 nk,.bool fr,.int .i64 size,bsl,.bool ok]) (hs:SlC w B 1 IntR l sl) (_hB:B≤w.heap.size) :
  Calls prog 72 #[.pointer (some ⟨cb,0,none⟩),.agg #[.int .i64 6,.int .i64 n,.slice ov lv cv,.slice ot lt ct],sl] w fun e w'=>e=.returned (.bool (Trm.numberB nc nk fr (fun v=>l.contains v) 6 n))∧Below w.heap.size w w':=by
 obtain ⟨os,ls,cs,rfl⟩:=hs.form
 rw[show Trm.numberB nc nk fr (fun v=>l.contains v) 6 n=decide (n=0) from rfl]
 have g:(n==0)=decide (n=0):=by rw[Bool.eq_iff_iff];simp
 obtain ⟨W1,hW1⟩:∃W1,w.alloc (.cells #[.int .i64 6,.int .i64 n,.slice ov lv cv,.slice ot lt ct] 27)=W1:=⟨_,rfl⟩
 have HW:=zh hW1
 have HB1:=zh (show Below w.heap.size w W1 from by rw[←hW1];exact Below.one w _)
 have HX1:=zh (show BoxL W1 w.heap.size 27 [.int .i64 6,.int .i64 n,.slice ov lv cv,.slice ot lt ct] from by rw[←hW1];exact BoxL.new rfl _ _)
 have HC1:=zh (hc.keep HB1.out)
 clear hW1 hs
 have x0:=HX1.out.cell 0 rfl
 have x1:=HX1.out.cell 1 rfl
 have xl:=HX1.out.lt
 have y3:=HC1.out.cell 3 rfl
 have yl:=HC1.out.lt
 go_enter func72,ntmps72
 go_upto_region 1 with fail
 rw[HW.out]
 go_wp2_with fail
 go_ret
 exact ⟨rfl,HB1.out⟩
theorem zg2 (cb:Nat) (nc nk size:Int) (fr ok:Bool) (bsl:Value) (n:Int) (ov ot:Option Addr) (lv cv lt ct:Nat) (l:List Int) (sl:Value) (B:Nat) (w:World) (hc:BoxL w cb 81 [.int .i64 3,.int .i64 nc,.int .i64 nk,.bool fr,.int .i64 size,bsl,.bool ok]) (hs:SlC w B 1 IntR l sl) (_hB:B≤w.heap.size) :
  Calls prog 72 #[.pointer (some ⟨cb,0,none⟩),.agg #[.int .i64 8,.int .i64 n,.slice ov lv cv,.slice ot lt ct],sl] w fun e w'=>e=.returned (.bool (Trm.numberB nc nk fr (fun v=>l.contains v) 8 n))∧Below w.heap.size w w':=by
 obtain ⟨os,ls,cs,rfl⟩:=hs.form
 rw[show Trm.numberB nc nk fr (fun v=>l.contains v) 8 n=decide (n=0) from rfl]
 have g:(n==0)=decide (n=0):=by rw[Bool.eq_iff_iff];simp
 obtain ⟨W1,hW1⟩:∃W1,w.alloc (.cells #[.int .i64 8,.int .i64 n,.slice ov lv cv,.slice ot lt ct] 27)=W1:=⟨_,rfl⟩
 have HW:=zh hW1
 have HB1:=zh (show Below w.heap.size w W1 from by rw[←hW1];exact Below.one w _)
 have HX1:=zh (show BoxL W1 w.heap.size 27 [.int .i64 8,.int .i64 n,.slice ov lv cv,.slice ot lt ct] from by rw[←hW1];exact BoxL.new rfl _ _)
 have HC1:=zh (hc.keep HB1.out)
 clear hW1 hs
 have x0:=HX1.out.cell 0 rfl
 have x1:=HX1.out.cell 1 rfl
 have xl:=HX1.out.lt
 have y3:=HC1.out.cell 3 rfl
 have yl:=HC1.out.lt
 go_enter func72,ntmps72
 go_upto_region 1 with fail
 rw[HW.out]
 go_wp2_with fail
 go_ret
 exact ⟨rfl,HB1.out⟩
theorem zhI (cb:Nat) (nc nk size:Int) (fr ok:Bool) (bsl:Value) (n:Int) (ov ot:Option Addr) (lv cv lt ct:Nat) (l:List Int) (sl:Value) (B:Nat) (w:World) (hc:BoxL w cb 81 [.int .i64 3,.int .i64 nc,.int .i64 nk,.bool fr,.int .i64 size,bsl,.bool ok]) (hs:SlC w B 1 IntR l sl) (_hB:B≤w.heap.size) :
  Calls prog 72 #[.pointer (some ⟨cb,0,none⟩),.agg #[.int .i64 9,.int .i64 n,.slice ov lv cv,.slice ot lt ct],sl] w fun e w'=>e=.returned (.bool (Trm.numberB nc nk fr (fun v=>l.contains v) 9 n))∧Below w.heap.size w w':=by
 obtain ⟨os,ls,cs,rfl⟩:=hs.form
 rw[show Trm.numberB nc nk fr (fun v=>l.contains v) 9 n=decide (n=0) from rfl]
 have g:(n==0)=decide (n=0):=by rw[Bool.eq_iff_iff];simp
 obtain ⟨W1,hW1⟩:∃W1,w.alloc (.cells #[.int .i64 9,.int .i64 n,.slice ov lv cv,.slice ot lt ct] 27)=W1:=⟨_,rfl⟩
 have HW:=zh hW1
 have HB1:=zh (show Below w.heap.size w W1 from by rw[←hW1];exact Below.one w _)
 have HX1:=zh (show BoxL W1 w.heap.size 27 [.int .i64 9,.int .i64 n,.slice ov lv cv,.slice ot lt ct] from by rw[←hW1];exact BoxL.new rfl _ _)
 have HC1:=zh (hc.keep HB1.out)
 clear hW1 hs
 have x0:=HX1.out.cell 0 rfl
 have x1:=HX1.out.cell 1 rfl
 have xl:=HX1.out.lt
 have y3:=HC1.out.cell 3 rfl
 have yl:=HC1.out.lt
 go_enter func72,ntmps72
 go_upto_region 1 with fail
 rw[HW.out]
 go_wp2_with fail
 go_ret
 exact ⟨rfl,HB1.out⟩
theorem zgr (cb:Nat) (nc nk size:Int) (fr ok:Bool) (bsl:Value) (n:Int) (ov ot:Option Addr) (lv cv lt ct:Nat) (l:List Int) (sl:Value) (B:Nat) (w:World) (hc:BoxL w cb 81 [.int .i64 3,.int .i64 nc,.int .i64 nk,.bool fr,.int .i64 size,bsl,.bool ok]) (hs:SlC w B 1 IntR l sl) (_hB:B≤w.heap.size) :
  Calls prog 72 #[.pointer (some ⟨cb,0,none⟩),.agg #[.int .i64 10,.int .i64 n,.slice ov lv cv,.slice ot lt ct],sl] w fun e w'=>e=.returned (.bool (Trm.numberB nc nk fr (fun v=>l.contains v) 10 n))∧Below w.heap.size w w':=by
 obtain ⟨os,ls,cs,rfl⟩:=hs.form
 rw[show Trm.numberB nc nk fr (fun v=>l.contains v) 10 n=(decide (0≤n)&&decide (n<31)) from rfl]
 have g:decide (n≤30)=decide (n<31):=by rw[decide_eq_decide];omega
 obtain ⟨W1,hW1⟩:∃W1,w.alloc (.cells #[.int .i64 10,.int .i64 n,.slice ov lv cv,.slice ot lt ct] 27)=W1:=⟨_,rfl⟩
 have HW:=zh hW1
 have HB1:=zh (show Below w.heap.size w W1 from by rw[←hW1];exact Below.one w _)
 have HX1:=zh (show BoxL W1 w.heap.size 27 [.int .i64 10,.int .i64 n,.slice ov lv cv,.slice ot lt ct] from by rw[←hW1];exact BoxL.new rfl _ _)
 have HC1:=zh (hc.keep HB1.out)
 clear hW1 hs
 cases h:decide (0≤n) with
 | false=>
  simp only[Bool.false_and]
  have x0:=HX1.out.cell 0 rfl
  have x1:=HX1.out.cell 1 rfl
  have xl:=HX1.out.lt
  have y3:=HC1.out.cell 3 rfl
  have yl:=HC1.out.lt
  go_enter func72,ntmps72
  go_upto_region 1 with fail
  rw[HW.out]
  go_wp2_with fail
  go_ret
  exact ⟨rfl,HB1.out⟩
 | true=>
  simp only[Bool.true_and]
  have x0:=HX1.out.cell 0 rfl
  have x1:=HX1.out.cell 1 rfl
  have xl:=HX1.out.lt
  have y3:=HC1.out.cell 3 rfl
  have yl:=HC1.out.lt
  go_enter func72,ntmps72
  go_upto_region 1 with fail
  rw[HW.out]
  go_wp2_with fail
  go_ret
  exact ⟨rfl,HB1.out⟩
theorem zgj (cb:Nat) (nc nk size:Int) (fr ok:Bool) (bsl:Value) (n:Int) (ov ot:Option Addr) (lv cv lt ct:Nat) (l:List Int) (sl:Value) (B:Nat) (w:World) (hc:BoxL w cb 81 [.int .i64 3,.int .i64 nc,.int .i64 nk,.bool fr,.int .i64 size,bsl,.bool ok]) (hs:SlC w B 1 IntR l sl) (_hB:B≤w.heap.size) :
  Calls prog 72 #[.pointer (some ⟨cb,0,none⟩),.agg #[.int .i64 11,.int .i64 n,.slice ov lv cv,.slice ot lt ct],sl] w fun e w'=>e=.returned (.bool (Trm.numberB nc nk fr (fun v=>l.contains v) 11 n))∧Below w.heap.size w w':=by
 obtain ⟨os,ls,cs,rfl⟩:=hs.form
 rw[show Trm.numberB nc nk fr (fun v=>l.contains v) 11 n=(decide (0≤n)&&decide (n<31)) from rfl]
 have g:decide (n≤30)=decide (n<31):=by rw[decide_eq_decide];omega
 obtain ⟨W1,hW1⟩:∃W1,w.alloc (.cells #[.int .i64 11,.int .i64 n,.slice ov lv cv,.slice ot lt ct] 27)=W1:=⟨_,rfl⟩
 have HW:=zh hW1
 have HB1:=zh (show Below w.heap.size w W1 from by rw[←hW1];exact Below.one w _)
 have HX1:=zh (show BoxL W1 w.heap.size 27 [.int .i64 11,.int .i64 n,.slice ov lv cv,.slice ot lt ct] from by rw[←hW1];exact BoxL.new rfl _ _)
 have HC1:=zh (hc.keep HB1.out)
 clear hW1 hs
 cases h:decide (0≤n) with
 | false=>
  simp only[Bool.false_and]
  have x0:=HX1.out.cell 0 rfl
  have x1:=HX1.out.cell 1 rfl
  have xl:=HX1.out.lt
  have y3:=HC1.out.cell 3 rfl
  have yl:=HC1.out.lt
  go_enter func72,ntmps72
  go_upto_region 1 with fail
  rw[HW.out]
  go_wp2_with fail
  go_ret
  exact ⟨rfl,HB1.out⟩
 | true=>
  simp only[Bool.true_and]
  have x0:=HX1.out.cell 0 rfl
  have x1:=HX1.out.cell 1 rfl
  have xl:=HX1.out.lt
  have y3:=HC1.out.cell 3 rfl
  have yl:=HC1.out.lt
  go_enter func72,ntmps72
  go_upto_region 1 with fail
  rw[HW.out]
  go_wp2_with fail
  go_ret
  exact ⟨rfl,HB1.out⟩
theorem zga (cb:Nat) (nc nk size:Int) (fr ok:Bool) (bsl:Value) (n:Int) (ov ot:Option Addr) (lv cv lt ct:Nat) (l:List Int) (sl:Value) (B:Nat) (w:World) (hc:BoxL w cb 81 [.int .i64 3,.int .i64 nc,.int .i64 nk,.bool fr,.int .i64 size,bsl,.bool ok]) (hs:SlC w B 1 IntR l sl) (_hB:B≤w.heap.size) :
  Calls prog 72 #[.pointer (some ⟨cb,0,none⟩),.agg #[.int .i64 12,.int .i64 n,.slice ov lv cv,.slice ot lt ct],sl] w fun e w'=>e=.returned (.bool (Trm.numberB nc nk fr (fun v=>l.contains v) 12 n))∧Below w.heap.size w w':=by
 obtain ⟨os,ls,cs,rfl⟩:=hs.form
 rw[show Trm.numberB nc nk fr (fun v=>l.contains v) 12 n=decide (n=0) from rfl]
 have g:(n==0)=decide (n=0):=by rw[Bool.eq_iff_iff];simp
 obtain ⟨W1,hW1⟩:∃W1,w.alloc (.cells #[.int .i64 12,.int .i64 n,.slice ov lv cv,.slice ot lt ct] 27)=W1:=⟨_,rfl⟩
 have HW:=zh hW1
 have HB1:=zh (show Below w.heap.size w W1 from by rw[←hW1];exact Below.one w _)
 have HX1:=zh (show BoxL W1 w.heap.size 27 [.int .i64 12,.int .i64 n,.slice ov lv cv,.slice ot lt ct] from by rw[←hW1];exact BoxL.new rfl _ _)
 have HC1:=zh (hc.keep HB1.out)
 clear hW1 hs
 have x0:=HX1.out.cell 0 rfl
 have x1:=HX1.out.cell 1 rfl
 have xl:=HX1.out.lt
 have y3:=HC1.out.cell 3 rfl
 have yl:=HC1.out.lt
 go_enter func72,ntmps72
 go_upto_region 1 with fail
 rw[HW.out]
 go_wp2_with fail
 go_ret
 exact ⟨rfl,HB1.out⟩
theorem zf2 (cb:Nat) (nc nk size:Int) (fr ok:Bool) (bsl:Value) (n:Int) (ov ot:Option Addr) (lv cv lt ct:Nat) (l:List Int) (sl:Value) (B:Nat) (w:World) (hc:BoxL w cb 81 [.int .i64 3,.int .i64 nc,.int .i64 nk,.bool fr,.int .i64 size,bsl,.bool ok]) (hs:SlC w B 1 IntR l sl) (_hB:B≤w.heap.size) :
  Calls prog 72 #[.pointer (some ⟨cb,0,none⟩),.agg #[.int .i64 13,.int .i64 n,.slice ov lv cv,.slice ot lt ct],sl] w fun e w'=>e=.returned (.bool (Trm.numberB nc nk fr (fun v=>l.contains v) 13 n))∧Below w.heap.size w w':=by
 obtain ⟨os,ls,cs,rfl⟩:=hs.form
 rw[show Trm.numberB nc nk fr (fun v=>l.contains v) 13 n=decide (n=0) from rfl]
 have g:(n==0)=decide (n=0):=by rw[Bool.eq_iff_iff];simp
 obtain ⟨W1,hW1⟩:∃W1,w.alloc (.cells #[.int .i64 13,.int .i64 n,.slice ov lv cv,.slice ot lt ct] 27)=W1:=⟨_,rfl⟩
 have HW:=zh hW1
 have HB1:=zh (show Below w.heap.size w W1 from by rw[←hW1];exact Below.one w _)
 have HX1:=zh (show BoxL W1 w.heap.size 27 [.int .i64 13,.int .i64 n,.slice ov lv cv,.slice ot lt ct] from by rw[←hW1];exact BoxL.new rfl _ _)
 have HC1:=zh (hc.keep HB1.out)
 clear hW1 hs
 have x0:=HX1.out.cell 0 rfl
 have x1:=HX1.out.cell 1 rfl
 have xl:=HX1.out.lt
 have y3:=HC1.out.cell 3 rfl
 have yl:=HC1.out.lt
 go_enter func72,ntmps72
 go_upto_region 1 with fail
 rw[HW.out]
 go_wp2_with fail
 go_ret
 exact ⟨rfl,HB1.out⟩
theorem zgB (cb:Nat) (nc nk size:Int) (fr ok:Bool) (bsl:Value) (n:Int) (ov ot:Option Addr) (lv cv lt ct:Nat) (l:List Int) (sl:Value) (B:Nat) (w:World) (hc:BoxL w cb 81 [.int .i64 3,.int .i64 nc,.int .i64 nk,.bool fr,.int .i64 size,bsl,.bool ok]) (hs:SlC w B 1 IntR l sl) (_hB:B≤w.heap.size) :
  Calls prog 72 #[.pointer (some ⟨cb,0,none⟩),.agg #[.int .i64 15,.int .i64 n,.slice ov lv cv,.slice ot lt ct],sl] w fun e w'=>e=.returned (.bool (Trm.numberB nc nk fr (fun v=>l.contains v) 15 n))∧Below w.heap.size w w':=by
 obtain ⟨os,ls,cs,rfl⟩:=hs.form
 rw[show Trm.numberB nc nk fr (fun v=>l.contains v) 15 n=decide (n=0) from rfl]
 have g:(n==0)=decide (n=0):=by rw[Bool.eq_iff_iff];simp
 obtain ⟨W1,hW1⟩:∃W1,w.alloc (.cells #[.int .i64 15,.int .i64 n,.slice ov lv cv,.slice ot lt ct] 27)=W1:=⟨_,rfl⟩
 have HW:=zh hW1
 have HB1:=zh (show Below w.heap.size w W1 from by rw[←hW1];exact Below.one w _)
 have HX1:=zh (show BoxL W1 w.heap.size 27 [.int .i64 15,.int .i64 n,.slice ov lv cv,.slice ot lt ct] from by rw[←hW1];exact BoxL.new rfl _ _)
 have HC1:=zh (hc.keep HB1.out)
 clear hW1 hs
 have x0:=HX1.out.cell 0 rfl
 have x1:=HX1.out.cell 1 rfl
 have xl:=HX1.out.lt
 have y3:=HC1.out.cell 3 rfl
 have yl:=HC1.out.lt
 go_enter func72,ntmps72
 go_upto_region 1 with fail
 rw[HW.out]
 go_wp2_with fail
 go_ret
 exact ⟨rfl,HB1.out⟩
theorem zgx (cb:Nat) (nc nk size:Int) (fr ok:Bool) (bsl:Value) (n:Int) (ov ot:Option Addr) (lv cv lt ct:Nat) (l:List Int) (sl:Value) (B:Nat) (w:World) (hc:BoxL w cb 81 [.int .i64 3,.int .i64 nc,.int .i64 nk,.bool fr,.int .i64 size,bsl,.bool ok]) (hs:SlC w B 1 IntR l sl) (_hB:B≤w.heap.size) :
  Calls prog 72 #[.pointer (some ⟨cb,0,none⟩),.agg #[.int .i64 16,.int .i64 n,.slice ov lv cv,.slice ot lt ct],sl] w fun e w'=>e=.returned (.bool (Trm.numberB nc nk fr (fun v=>l.contains v) 16 n))∧Below w.heap.size w w':=by
 obtain ⟨os,ls,cs,rfl⟩:=hs.form
 rw[show Trm.numberB nc nk fr (fun v=>l.contains v) 16 n=decide (n=0) from rfl]
 have g:(n==0)=decide (n=0):=by rw[Bool.eq_iff_iff];simp
 obtain ⟨W1,hW1⟩:∃W1,w.alloc (.cells #[.int .i64 16,.int .i64 n,.slice ov lv cv,.slice ot lt ct] 27)=W1:=⟨_,rfl⟩
 have HW:=zh hW1
 have HB1:=zh (show Below w.heap.size w W1 from by rw[←hW1];exact Below.one w _)
 have HX1:=zh (show BoxL W1 w.heap.size 27 [.int .i64 16,.int .i64 n,.slice ov lv cv,.slice ot lt ct] from by rw[←hW1];exact BoxL.new rfl _ _)
 have HC1:=zh (hc.keep HB1.out)
 clear hW1 hs
 have x0:=HX1.out.cell 0 rfl
 have x1:=HX1.out.cell 1 rfl
 have xl:=HX1.out.lt
 have y3:=HC1.out.cell 3 rfl
 have yl:=HC1.out.lt
 go_enter func72,ntmps72
 go_upto_region 1 with fail
 rw[HW.out]
 go_wp2_with fail
 go_ret
 exact ⟨rfl,HB1.out⟩
theorem zgz (cb:Nat) (nc nk size:Int) (fr ok:Bool) (bsl:Value) (n:Int) (ov ot:Option Addr) (lv cv lt ct:Nat) (l:List Int) (sl:Value) (B:Nat) (w:World) (hc:BoxL w cb 81 [.int .i64 3,.int .i64 nc,.int .i64 nk,.bool fr,.int .i64 size,bsl,.bool ok]) (hs:SlC w B 1 IntR l sl) (_hB:B≤w.heap.size) :
  Calls prog 72 #[.pointer (some ⟨cb,0,none⟩),.agg #[.int .i64 17,.int .i64 n,.slice ov lv cv,.slice ot lt ct],sl] w fun e w'=>e=.returned (.bool (Trm.numberB nc nk fr (fun v=>l.contains v) 17 n))∧Below w.heap.size w w':=by
 obtain ⟨os,ls,cs,rfl⟩:=hs.form
 rw[show Trm.numberB nc nk fr (fun v=>l.contains v) 17 n=decide (n=0) from rfl]
 have g:(n==0)=decide (n=0):=by rw[Bool.eq_iff_iff];simp
 obtain ⟨W1,hW1⟩:∃W1,w.alloc (.cells #[.int .i64 17,.int .i64 n,.slice ov lv cv,.slice ot lt ct] 27)=W1:=⟨_,rfl⟩
 have HW:=zh hW1
 have HB1:=zh (show Below w.heap.size w W1 from by rw[←hW1];exact Below.one w _)
 have HX1:=zh (show BoxL W1 w.heap.size 27 [.int .i64 17,.int .i64 n,.slice ov lv cv,.slice ot lt ct] from by rw[←hW1];exact BoxL.new rfl _ _)
 have HC1:=zh (hc.keep HB1.out)
 clear hW1 hs
 have x0:=HX1.out.cell 0 rfl
 have x1:=HX1.out.cell 1 rfl
 have xl:=HX1.out.lt
 have y3:=HC1.out.cell 3 rfl
 have yl:=HC1.out.lt
 go_enter func72,ntmps72
 go_upto_region 1 with fail
 rw[HW.out]
 go_wp2_with fail
 go_ret
 exact ⟨rfl,HB1.out⟩
theorem zgd (cb:Nat) (nc nk size:Int) (fr ok:Bool) (bsl:Value) (n:Int) (ov ot:Option Addr) (lv cv lt ct:Nat) (l:List Int) (sl:Value) (B:Nat) (w:World) (hc:BoxL w cb 81 [.int .i64 3,.int .i64 nc,.int .i64 nk,.bool fr,.int .i64 size,bsl,.bool ok]) (hs:SlC w B 1 IntR l sl) (_hB:B≤w.heap.size) :
  Calls prog 72 #[.pointer (some ⟨cb,0,none⟩),.agg #[.int .i64 18,.int .i64 n,.slice ov lv cv,.slice ot lt ct],sl] w fun e w'=>e=.returned (.bool (Trm.numberB nc nk fr (fun v=>l.contains v) 18 n))∧Below w.heap.size w w':=by
 obtain ⟨os,ls,cs,rfl⟩:=hs.form
 rw[show Trm.numberB nc nk fr (fun v=>l.contains v) 18 n=decide (n=0) from rfl]
 have g:(n==0)=decide (n=0):=by rw[Bool.eq_iff_iff];simp
 obtain ⟨W1,hW1⟩:∃W1,w.alloc (.cells #[.int .i64 18,.int .i64 n,.slice ov lv cv,.slice ot lt ct] 27)=W1:=⟨_,rfl⟩
 have HW:=zh hW1
 have HB1:=zh (show Below w.heap.size w W1 from by rw[←hW1];exact Below.one w _)
 have HX1:=zh (show BoxL W1 w.heap.size 27 [.int .i64 18,.int .i64 n,.slice ov lv cv,.slice ot lt ct] from by rw[←hW1];exact BoxL.new rfl _ _)
 have HC1:=zh (hc.keep HB1.out)
 clear hW1 hs
 have x0:=HX1.out.cell 0 rfl
 have x1:=HX1.out.cell 1 rfl
 have xl:=HX1.out.lt
 have y3:=HC1.out.cell 3 rfl
 have yl:=HC1.out.lt
 go_enter func72,ntmps72
 go_upto_region 1 with fail
 rw[HW.out]
 go_wp2_with fail
 go_ret
 exact ⟨rfl,HB1.out⟩
theorem zgH (cb:Nat) (nc nk size:Int) (fr ok:Bool) (bsl:Value) (n:Int) (ov ot:Option Addr) (lv cv lt ct:Nat) (l:List Int) (sl:Value) (B:Nat) (w:World) (hc:BoxL w cb 81 [.int .i64 3,.int .i64 nc,.int .i64 nk,.bool fr,.int .i64 size,bsl,.bool ok]) (hs:SlC w B 1 IntR l sl) (_hB:B≤w.heap.size) :
  Calls prog 72 #[.pointer (some ⟨cb,0,none⟩),.agg #[.int .i64 19,.int .i64 n,.slice ov lv cv,.slice ot lt ct],sl] w fun e w'=>e=.returned (.bool (Trm.numberB nc nk fr (fun v=>l.contains v) 19 n))∧Below w.heap.size w w':=by
 obtain ⟨os,ls,cs,rfl⟩:=hs.form
 rw[show Trm.numberB nc nk fr (fun v=>l.contains v) 19 n=(decide (0≤n)&&decide (n<nk)) from rfl]
 obtain ⟨W1,hW1⟩:∃W1,w.alloc (.cells #[.int .i64 19,.int .i64 n,.slice ov lv cv,.slice ot lt ct] 27)=W1:=⟨_,rfl⟩
 have HW:=zh hW1
 have HB1:=zh (show Below w.heap.size w W1 from by rw[←hW1];exact Below.one w _)
 have HX1:=zh (show BoxL W1 w.heap.size 27 [.int .i64 19,.int .i64 n,.slice ov lv cv,.slice ot lt ct] from by rw[←hW1];exact BoxL.new rfl _ _)
 have HC1:=zh (hc.keep HB1.out)
 clear hW1 hs
 have HD:=zh ((Below.refl W1.heap.size W1).drew)
 cases h:decide (0≤n) with
 | false=>
  have x0:=HX1.out.cell 0 rfl
  have x1:=HX1.out.cell 1 rfl
  have xl:=HX1.out.lt
  go_enter func72,ntmps72
  go_upto_region 1 with fail
  rw[HW.out]
  go_upto_region 18 with fail
  clear x0 x1 xl
  refine zab (Below W1.heap.size W1) (by kernel_rfl) (by kernel_rfl) HD.out ?_
  intro T0 _ WW HWW HWW2
  have y1:∀t,(WW t).cell? _=_:=fun t=>((HWW t).cell (p:=⟨w.heap.size,1,none⟩) HX1.out.lt).trans (HX1.out.cell 1 rfl)
  have HWH:=zh HWW
  clear HWW HWW2
  repeat (go_big_quiet_step (fail))
  refine wpQuiet_nil ?_
  intro t'
  have HF:=zh (HB1.out.trans ((HWH.out t').mono HB1.out.size))
  clear y1 HWH
  go_wp2_with fail
  go_ret
  exact ⟨rfl,HF.out⟩
 | true=>
  have x0:=HX1.out.cell 0 rfl
  have x1:=HX1.out.cell 1 rfl
  have xl:=HX1.out.lt
  go_enter func72,ntmps72
  go_upto_region 1 with fail
  rw[HW.out]
  go_upto_region 18 with fail
  clear x0 x1 xl
  refine zab (Below W1.heap.size W1) (by kernel_rfl) (by kernel_rfl) HD.out ?_
  intro T0 _ WW HWW HWW2
  have y1:∀t,(WW t).cell? _=_:=fun t=>((HWW t).cell (p:=⟨w.heap.size,1,none⟩) HX1.out.lt).trans (HX1.out.cell 1 rfl)
  have z1:∀t,(WW t).cell? _=_:=fun t=>((HWW t).cell (p:=⟨cb,2,none⟩) HC1.out.lt).trans (HC1.out.cell 2 rfl)
  have HWH:=zh HWW
  clear HWW HWW2
  repeat (go_big_quiet_step (fail))
  refine wpQuiet_nil ?_
  intro t'
  have HF:=zh (HB1.out.trans ((HWH.out t').mono HB1.out.size))
  clear y1 z1 HWH
  go_wp2_with fail
  go_ret
  exact ⟨rfl,HF.out⟩
theorem zgp (cb:Nat) (nc nk size:Int) (fr ok:Bool) (bsl:Value) (n:Int) (ov ot:Option Addr) (lv cv lt ct:Nat) (l:List Int) (sl:Value) (B:Nat) (w:World) (hc:BoxL w cb 81 [.int .i64 3,.int .i64 nc,.int .i64 nk,.bool fr,.int .i64 size,bsl,.bool ok]) (hs:SlC w B 1 IntR l sl) (_hB:B≤w.heap.size) :
  Calls prog 72 #[.pointer (some ⟨cb,0,none⟩),.agg #[.int .i64 20,.int .i64 n,.slice ov lv cv,.slice ot lt ct],sl] w fun e w'=>e=.returned (.bool (Trm.numberB nc nk fr (fun v=>l.contains v) 20 n))∧Below w.heap.size w w':=by
 obtain ⟨os,ls,cs,rfl⟩:=hs.form
 rw[show Trm.numberB nc nk fr (fun v=>l.contains v) 20 n=(decide (0≤n)&&fr) from rfl]
 obtain ⟨W1,hW1⟩:∃W1,w.alloc (.cells #[.int .i64 20,.int .i64 n,.slice ov lv cv,.slice ot lt ct] 27)=W1:=⟨_,rfl⟩
 have HW:=zh hW1
 have HB1:=zh (show Below w.heap.size w W1 from by rw[←hW1];exact Below.one w _)
 have HX1:=zh (show BoxL W1 w.heap.size 27 [.int .i64 20,.int .i64 n,.slice ov lv cv,.slice ot lt ct] from by rw[←hW1];exact BoxL.new rfl _ _)
 have HC1:=zh (hc.keep HB1.out)
 clear hW1 hs
 cases h:decide (0≤n) with
 | false=>
  simp only[Bool.false_and]
  have x0:=HX1.out.cell 0 rfl
  have x1:=HX1.out.cell 1 rfl
  have xl:=HX1.out.lt
  have y3:=HC1.out.cell 3 rfl
  have yl:=HC1.out.lt
  go_enter func72,ntmps72
  go_upto_region 1 with fail
  rw[HW.out]
  go_wp2_with fail
  go_ret
  exact ⟨rfl,HB1.out⟩
 | true=>
  simp only[Bool.true_and]
  have x0:=HX1.out.cell 0 rfl
  have x1:=HX1.out.cell 1 rfl
  have xl:=HX1.out.lt
  have y3:=HC1.out.cell 3 rfl
  have yl:=HC1.out.lt
  go_enter func72,ntmps72
  go_upto_region 1 with fail
  rw[HW.out]
  go_wp2_with fail
  go_ret
  exact ⟨rfl,HB1.out⟩
theorem zgC (cb:Nat) (nc nk size:Int) (fr ok:Bool) (bsl:Value) (n:Int) (ov ot:Option Addr) (lv cv lt ct:Nat) (l:List Int) (sl:Value) (B:Nat) (w:World) (hc:BoxL w cb 81 [.int .i64 3,.int .i64 nc,.int .i64 nk,.bool fr,.int .i64 size,bsl,.bool ok]) (hs:SlC w B 1 IntR l sl) (_hB:B≤w.heap.size) :
  Calls prog 72 #[.pointer (some ⟨cb,0,none⟩),.agg #[.int .i64 21,.int .i64 n,.slice ov lv cv,.slice ot lt ct],sl] w fun e w'=>e=.returned (.bool (Trm.numberB nc nk fr (fun v=>l.contains v) 21 n))∧Below w.heap.size w w':=by
 obtain ⟨os,ls,cs,rfl⟩:=hs.form
 rw[show Trm.numberB nc nk fr (fun v=>l.contains v) 21 n=(decide (0≤n)&&decide (n<nk)) from rfl]
 obtain ⟨W1,hW1⟩:∃W1,w.alloc (.cells #[.int .i64 21,.int .i64 n,.slice ov lv cv,.slice ot lt ct] 27)=W1:=⟨_,rfl⟩
 have HW:=zh hW1
 have HB1:=zh (show Below w.heap.size w W1 from by rw[←hW1];exact Below.one w _)
 have HX1:=zh (show BoxL W1 w.heap.size 27 [.int .i64 21,.int .i64 n,.slice ov lv cv,.slice ot lt ct] from by rw[←hW1];exact BoxL.new rfl _ _)
 have HC1:=zh (hc.keep HB1.out)
 clear hW1 hs
 have HD:=zh ((Below.refl W1.heap.size W1).drew)
 cases h:decide (0≤n) with
 | false=>
  have x0:=HX1.out.cell 0 rfl
  have x1:=HX1.out.cell 1 rfl
  have xl:=HX1.out.lt
  go_enter func72,ntmps72
  go_upto_region 1 with fail
  rw[HW.out]
  go_upto_region 18 with fail
  clear x0 x1 xl
  refine zab (Below W1.heap.size W1) (by kernel_rfl) (by kernel_rfl) HD.out ?_
  intro T0 _ WW HWW HWW2
  have y1:∀t,(WW t).cell? _=_:=fun t=>((HWW t).cell (p:=⟨w.heap.size,1,none⟩) HX1.out.lt).trans (HX1.out.cell 1 rfl)
  have HWH:=zh HWW
  clear HWW HWW2
  repeat (go_big_quiet_step (fail))
  refine wpQuiet_nil ?_
  intro t'
  have HF:=zh (HB1.out.trans ((HWH.out t').mono HB1.out.size))
  clear y1 HWH
  go_wp2_with fail
  go_ret
  exact ⟨rfl,HF.out⟩
 | true=>
  have x0:=HX1.out.cell 0 rfl
  have x1:=HX1.out.cell 1 rfl
  have xl:=HX1.out.lt
  go_enter func72,ntmps72
  go_upto_region 1 with fail
  rw[HW.out]
  go_upto_region 18 with fail
  clear x0 x1 xl
  refine zab (Below W1.heap.size W1) (by kernel_rfl) (by kernel_rfl) HD.out ?_
  intro T0 _ WW HWW HWW2
  have y1:∀t,(WW t).cell? _=_:=fun t=>((HWW t).cell (p:=⟨w.heap.size,1,none⟩) HX1.out.lt).trans (HX1.out.cell 1 rfl)
  have z1:∀t,(WW t).cell? _=_:=fun t=>((HWW t).cell (p:=⟨cb,2,none⟩) HC1.out.lt).trans (HC1.out.cell 2 rfl)
  have HWH:=zh HWW
  clear HWW HWW2
  repeat (go_big_quiet_step (fail))
  refine wpQuiet_nil ?_
  intro t'
  have HF:=zh (HB1.out.trans ((HWH.out t').mono HB1.out.size))
  clear y1 z1 HWH
  go_wp2_with fail
  go_ret
  exact ⟨rfl,HF.out⟩
theorem zgJ (cb:Nat) (nc nk size:Int) (fr ok:Bool) (bsl:Value) (n:Int) (ov ot:Option Addr) (lv cv lt ct:Nat) (l:List Int) (sl:Value) (B:Nat) (w:World) (hc:BoxL w cb 81 [.int .i64 3,.int .i64 nc,.int .i64 nk,.bool fr,.int .i64 size,bsl,.bool ok]) (hs:SlC w B 1 IntR l sl) (_hB:B≤w.heap.size) :
  Calls prog 72 #[.pointer (some ⟨cb,0,none⟩),.agg #[.int .i64 22,.int .i64 n,.slice ov lv cv,.slice ot lt ct],sl] w fun e w'=>e=.returned (.bool (Trm.numberB nc nk fr (fun v=>l.contains v) 22 n))∧Below w.heap.size w w':=by
 obtain ⟨os,ls,cs,rfl⟩:=hs.form
 rw[show Trm.numberB nc nk fr (fun v=>l.contains v) 22 n=(decide (0≤n)&&decide (n<nk)) from rfl]
 obtain ⟨W1,hW1⟩:∃W1,w.alloc (.cells #[.int .i64 22,.int .i64 n,.slice ov lv cv,.slice ot lt ct] 27)=W1:=⟨_,rfl⟩
 have HW:=zh hW1
 have HB1:=zh (show Below w.heap.size w W1 from by rw[←hW1];exact Below.one w _)
 have HX1:=zh (show BoxL W1 w.heap.size 27 [.int .i64 22,.int .i64 n,.slice ov lv cv,.slice ot lt ct] from by rw[←hW1];exact BoxL.new rfl _ _)
 have HC1:=zh (hc.keep HB1.out)
 clear hW1 hs
 have HD:=zh ((Below.refl W1.heap.size W1).drew)
 cases h:decide (0≤n) with
 | false=>
  have x0:=HX1.out.cell 0 rfl
  have x1:=HX1.out.cell 1 rfl
  have xl:=HX1.out.lt
  go_enter func72,ntmps72
  go_upto_region 1 with fail
  rw[HW.out]
  go_upto_region 18 with fail
  clear x0 x1 xl
  refine zab (Below W1.heap.size W1) (by kernel_rfl) (by kernel_rfl) HD.out ?_
  intro T0 _ WW HWW HWW2
  have y1:∀t,(WW t).cell? _=_:=fun t=>((HWW t).cell (p:=⟨w.heap.size,1,none⟩) HX1.out.lt).trans (HX1.out.cell 1 rfl)
  have HWH:=zh HWW
  clear HWW HWW2
  repeat (go_big_quiet_step (fail))
  refine wpQuiet_nil ?_
  intro t'
  have HF:=zh (HB1.out.trans ((HWH.out t').mono HB1.out.size))
  clear y1 HWH
  go_wp2_with fail
  go_ret
  exact ⟨rfl,HF.out⟩
 | true=>
  have x0:=HX1.out.cell 0 rfl
  have x1:=HX1.out.cell 1 rfl
  have xl:=HX1.out.lt
  go_enter func72,ntmps72
  go_upto_region 1 with fail
  rw[HW.out]
  go_upto_region 18 with fail
  clear x0 x1 xl
  refine zab (Below W1.heap.size W1) (by kernel_rfl) (by kernel_rfl) HD.out ?_
  intro T0 _ WW HWW HWW2
  have y1:∀t,(WW t).cell? _=_:=fun t=>((HWW t).cell (p:=⟨w.heap.size,1,none⟩) HX1.out.lt).trans (HX1.out.cell 1 rfl)
  have z1:∀t,(WW t).cell? _=_:=fun t=>((HWW t).cell (p:=⟨cb,2,none⟩) HC1.out.lt).trans (HC1.out.cell 2 rfl)
  have HWH:=zh HWW
  clear HWW HWW2
  repeat (go_big_quiet_step (fail))
  refine wpQuiet_nil ?_
  intro t'
  have HF:=zh (HB1.out.trans ((HWH.out t').mono HB1.out.size))
  clear y1 z1 HWH
  go_wp2_with fail
  go_ret
  exact ⟨rfl,HF.out⟩
end
section
open Go Go.RowKit
theorem zg9 (n:Int) (ov ot:Option Addr) (lv cv lt ct:Nat) (w:World) (hv:lv≤9223372036854775806):Calls prog 71 #[.agg #[.int .i64 0,.int .i64 n,.slice ov lv cv,.slice ot lt ct]] w fun e w'=>e=.returned (.bool (Trm.countsB 0 lv lt))∧Below w.heap.size w w':=by
 rw[show Trm.countsB 0 lv lt=(decide (lv=0)&&decide (lt=0)) from by rw[Bool.eq_iff_iff];simp[Trm.countsB]]
 have g:((lt:Int)==0)=decide (lt=0):=by rw[Bool.eq_iff_iff];simp;try omega
 by_cases h:0<lv
 ·have h1:decide ((0:Int)<(lv:Int))=true:=decide_eq_true (by omega)
  have h2:decide (0<lv)=true:=decide_eq_true h
  have h3:(0:Int)<(lv:Int):=by omega
  rw[decide_eq_false (show ¬lv=0 by omega)]
  simp only[Bool.false_and]
  go_enter func71,ntmps71
  go_wp2_with fail
  all_goals go_ret
  all_goals exact ⟨rfl,Below.one _ _⟩
 ·obtain rfl:lv=0:=by omega
  simp only[decide_true,Bool.true_and]
  clear h
  go_enter func71,ntmps71
  go_wp2_with fail
  all_goals go_ret
  all_goals exact ⟨rfl,Below.one _ _⟩
theorem zhs (n:Int) (ov ot:Option Addr) (lv cv lt ct:Nat) (w:World) (hv:lv≤9223372036854775806):Calls prog 71 #[.agg #[.int .i64 1,.int .i64 n,.slice ov lv cv,.slice ot lt ct]] w fun e w'=>e=.returned (.bool (Trm.countsB 1 lv lt))∧Below w.heap.size w w':=by
 rw[show Trm.countsB 1 lv lt=(decide (lv=0)&&decide (lt=0)) from by rw[Bool.eq_iff_iff];simp[Trm.countsB]]
 have g:((lt:Int)==0)=decide (lt=0):=by rw[Bool.eq_iff_iff];simp;try omega
 by_cases h:0<lv
 ·have h1:decide ((0:Int)<(lv:Int))=true:=decide_eq_true (by omega)
  have h2:decide (0<lv)=true:=decide_eq_true h
  have h3:(0:Int)<(lv:Int):=by omega
  rw[decide_eq_false (show ¬lv=0 by omega)]
  simp only[Bool.false_and]
  go_enter func71,ntmps71
  go_wp2_with fail
  all_goals go_ret
  all_goals exact ⟨rfl,Below.one _ _⟩
 ·obtain rfl:lv=0:=by omega
  simp only[decide_true,Bool.true_and]
  clear h
  go_enter func71,ntmps71
  go_wp2_with fail
  all_goals go_ret
  all_goals exact ⟨rfl,Below.one _ _⟩
theorem zid (n:Int) (ov ot:Option Addr) (lv cv lt ct:Nat) (w:World) (hv:lv≤9223372036854775806):Calls prog 71 #[.agg #[.int .i64 3,.int .i64 n,.slice ov lv cv,.slice ot lt ct]] w fun e w'=>e=.returned (.bool (Trm.countsB 3 lv lt))∧Below w.heap.size w w':=by
 rw[show Trm.countsB 3 lv lt=(decide (lv=0)&&decide (lt=3)) from by rw[Bool.eq_iff_iff];simp[Trm.countsB]]
 have g:((lt:Int)==3)=decide (lt=3):=by rw[Bool.eq_iff_iff];simp;try omega
 by_cases h:0<lv
 ·have h1:decide ((0:Int)<(lv:Int))=true:=decide_eq_true (by omega)
  have h2:decide (0<lv)=true:=decide_eq_true h
  have h3:(0:Int)<(lv:Int):=by omega
  rw[decide_eq_false (show ¬lv=0 by omega)]
  simp only[Bool.false_and]
  go_enter func71,ntmps71
  go_wp2_with fail
  all_goals go_ret
  all_goals exact ⟨rfl,Below.one _ _⟩
 ·obtain rfl:lv=0:=by omega
  simp only[decide_true,Bool.true_and]
  clear h
  go_enter func71,ntmps71
  go_wp2_with fail
  all_goals go_ret
  all_goals exact ⟨rfl,Below.one _ _⟩
theorem zhl (n:Int) (ov ot:Option Addr) (lv cv lt ct:Nat) (w:World) (hv:lv≤9223372036854775806):Calls prog 71 #[.agg #[.int .i64 5,.int .i64 n,.slice ov lv cv,.slice ot lt ct]] w fun e w'=>e=.returned (.bool (Trm.countsB 5 lv lt))∧Below w.heap.size w w':=by
 rw[show Trm.countsB 5 lv lt=(decide (lv=0)&&decide (1≤lt)) from by rw[Bool.eq_iff_iff];simp[Trm.countsB]]
 have g:decide ((1:Int)≤(lt:Int))=decide (1≤lt):=by rw[decide_eq_decide];omega
 by_cases h:0<lv
 ·have h1:decide ((0:Int)<(lv:Int))=true:=decide_eq_true (by omega)
  have h2:decide (0<lv)=true:=decide_eq_true h
  have h3:(0:Int)<(lv:Int):=by omega
  rw[decide_eq_false (show ¬lv=0 by omega)]
  simp only[Bool.false_and]
  go_enter func71,ntmps71
  go_wp2_with fail
  all_goals go_ret
  all_goals exact ⟨rfl,Below.one _ _⟩
 ·obtain rfl:lv=0:=by omega
  simp only[decide_true,Bool.true_and]
  clear h
  go_enter func71,ntmps71
  go_wp2_with fail
  all_goals go_ret
  all_goals exact ⟨rfl,Below.one _ _⟩
theorem zhG (n:Int) (ov ot:Option Addr) (lv cv lt ct:Nat) (w:World) (hv:lv≤9223372036854775806):Calls prog 71 #[.agg #[.int .i64 6,.int .i64 n,.slice ov lv cv,.slice ot lt ct]] w fun e w'=>e=.returned (.bool (Trm.countsB 6 lv lt))∧Below w.heap.size w w':=by
 rw[show Trm.countsB 6 lv lt=(decide (lv=0)&&decide (1≤lt)) from by rw[Bool.eq_iff_iff];simp[Trm.countsB]]
 have g:decide ((1:Int)≤(lt:Int))=decide (1≤lt):=by rw[decide_eq_decide];omega
 by_cases h:0<lv
 ·have h1:decide ((0:Int)<(lv:Int))=true:=decide_eq_true (by omega)
  have h2:decide (0<lv)=true:=decide_eq_true h
  have h3:(0:Int)<(lv:Int):=by omega
  rw[decide_eq_false (show ¬lv=0 by omega)]
  simp only[Bool.false_and]
  go_enter func71,ntmps71
  go_wp2_with fail
  all_goals go_ret
  all_goals exact ⟨rfl,Below.one _ _⟩
 ·obtain rfl:lv=0:=by omega
  simp only[decide_true,Bool.true_and]
  clear h
  go_enter func71,ntmps71
  go_wp2_with fail
  all_goals go_ret
  all_goals exact ⟨rfl,Below.one _ _⟩
theorem ziy (n:Int) (ov ot:Option Addr) (lv cv lt ct:Nat) (w:World) (hv:lv≤9223372036854775806):Calls prog 71 #[.agg #[.int .i64 8,.int .i64 n,.slice ov lv cv,.slice ot lt ct]] w fun e w'=>e=.returned (.bool (Trm.countsB 8 lv lt))∧Below w.heap.size w w':=by
 rw[show Trm.countsB 8 lv lt=decide (lt=lv+1) from by rw[Bool.eq_iff_iff];simp[Trm.countsB]]
 have g:((lt:Int)==(lv:Int)+1)=decide (lt=lv+1):=by rw[Bool.eq_iff_iff];simp;omega
 go_enter func71,ntmps71
 go_wp2_with fail
 go_ret
 exact ⟨rfl,Below.one _ _⟩
theorem zhY (n:Int) (ov ot:Option Addr) (lv cv lt ct:Nat) (w:World) (hv:lv≤9223372036854775806):Calls prog 71 #[.agg #[.int .i64 9,.int .i64 n,.slice ov lv cv,.slice ot lt ct]] w fun e w'=>e=.returned (.bool (Trm.countsB 9 lv lt))∧Below w.heap.size w w':=by
 rw[show Trm.countsB 9 lv lt=decide (lt=lv+1) from by rw[Bool.eq_iff_iff];simp[Trm.countsB]]
 have g:((lt:Int)==(lv:Int)+1)=decide (lt=lv+1):=by rw[Bool.eq_iff_iff];simp;omega
 go_enter func71,ntmps71
 go_wp2_with fail
 go_ret
 exact ⟨rfl,Below.one _ _⟩
theorem zgG (n:Int) (ov ot:Option Addr) (lv cv lt ct:Nat) (w:World) (hv:lv≤9223372036854775806):Calls prog 71 #[.agg #[.int .i64 10,.int .i64 n,.slice ov lv cv,.slice ot lt ct]] w fun e w'=>e=.returned (.bool (Trm.countsB 10 lv lt))∧Below w.heap.size w w':=by
 rw[show Trm.countsB 10 lv lt=decide (lv=0) from by rw[Bool.eq_iff_iff];simp[Trm.countsB]]
 by_cases h:0<lv
 ·have h1:decide ((0:Int)<(lv:Int))=true:=decide_eq_true (by omega)
  have h2:decide (0<lv)=true:=decide_eq_true h
  have h3:(0:Int)<(lv:Int):=by omega
  rw[decide_eq_false (show ¬lv=0 by omega)]
  skip
  go_enter func71,ntmps71
  go_wp2_with fail
  all_goals go_ret
  all_goals exact ⟨rfl,Below.one _ _⟩
 ·obtain rfl:lv=0:=by omega
  simp only[decide_true]
  clear h
  go_enter func71,ntmps71
  go_wp2_with fail
  all_goals go_ret
  all_goals exact ⟨rfl,Below.one _ _⟩
theorem zfX (n:Int) (ov ot:Option Addr) (lv cv lt ct:Nat) (w:World) (hv:lv≤9223372036854775806):Calls prog 71 #[.agg #[.int .i64 11,.int .i64 n,.slice ov lv cv,.slice ot lt ct]] w fun e w'=>e=.returned (.bool (Trm.countsB 11 lv lt))∧Below w.heap.size w w':=by
 rw[show Trm.countsB 11 lv lt=(decide (lv=0)&&decide (lt=0)) from by rw[Bool.eq_iff_iff];simp[Trm.countsB]]
 have g:((lt:Int)==0)=decide (lt=0):=by rw[Bool.eq_iff_iff];simp;try omega
 by_cases h:0<lv
 ·have h1:decide ((0:Int)<(lv:Int))=true:=decide_eq_true (by omega)
  have h2:decide (0<lv)=true:=decide_eq_true h
  have h3:(0:Int)<(lv:Int):=by omega
  rw[decide_eq_false (show ¬lv=0 by omega)]
  simp only[Bool.false_and]
  go_enter func71,ntmps71
  go_wp2_with fail
  all_goals go_ret
  all_goals exact ⟨rfl,Below.one _ _⟩
 ·obtain rfl:lv=0:=by omega
  simp only[decide_true,Bool.true_and]
  clear h
  go_enter func71,ntmps71
  go_wp2_with fail
  all_goals go_ret
  all_goals exact ⟨rfl,Below.one _ _⟩
theorem zfU (n:Int) (ov ot:Option Addr) (lv cv lt ct:Nat) (w:World) (hv:lv≤9223372036854775806):Calls prog 71 #[.agg #[.int .i64 12,.int .i64 n,.slice ov lv cv,.slice ot lt ct]] w fun e w'=>e=.returned (.bool (Trm.countsB 12 lv lt))∧Below w.heap.size w w':=by
 rw[show Trm.countsB 12 lv lt=(decide (lv=0)&&decide (lt=1)) from by rw[Bool.eq_iff_iff];simp[Trm.countsB]]
 have g:((lt:Int)==1)=decide (lt=1):=by rw[Bool.eq_iff_iff];simp;try omega
 by_cases h:0<lv
 ·have h1:decide ((0:Int)<(lv:Int))=true:=decide_eq_true (by omega)
  have h2:decide (0<lv)=true:=decide_eq_true h
  have h3:(0:Int)<(lv:Int):=by omega
  rw[decide_eq_false (show ¬lv=0 by omega)]
  simp only[Bool.false_and]
  go_enter func71,ntmps71
  go_wp2_with fail
  all_goals go_ret
  all_goals exact ⟨rfl,Below.one _ _⟩
 ·obtain rfl:lv=0:=by omega
  simp only[decide_true,Bool.true_and]
  clear h
  go_enter func71,ntmps71
  go_wp2_with fail
  all_goals go_ret
  all_goals exact ⟨rfl,Below.one _ _⟩
theorem zgh (n:Int) (ov ot:Option Addr) (lv cv lt ct:Nat) (w:World) (hv:lv≤9223372036854775806):Calls prog 71 #[.agg #[.int .i64 13,.int .i64 n,.slice ov lv cv,.slice ot lt ct]] w fun e w'=>e=.returned (.bool (Trm.countsB 13 lv lt))∧Below w.heap.size w w':=by
 rw[show Trm.countsB 13 lv lt=(decide (lv=0)&&decide (lt=0)) from by rw[Bool.eq_iff_iff];simp[Trm.countsB]]
 have g:((lt:Int)==0)=decide (lt=0):=by rw[Bool.eq_iff_iff];simp;try omega
 by_cases h:0<lv
 ·have h1:decide ((0:Int)<(lv:Int))=true:=decide_eq_true (by omega)
  have h2:decide (0<lv)=true:=decide_eq_true h
  have h3:(0:Int)<(lv:Int):=by omega
  rw[decide_eq_false (show ¬lv=0 by omega)]
  simp only[Bool.false_and]
  go_enter func71,ntmps71
  go_wp2_with fail
  all_goals go_ret
  all_goals exact ⟨rfl,Below.one _ _⟩
 ·obtain rfl:lv=0:=by omega
  simp only[decide_true,Bool.true_and]
  clear h
  go_enter func71,ntmps71
  go_wp2_with fail
  all_goals go_ret
  all_goals exact ⟨rfl,Below.one _ _⟩
theorem zgA (n:Int) (ov ot:Option Addr) (lv cv lt ct:Nat) (w:World) (hv:lv≤9223372036854775806):Calls prog 71 #[.agg #[.int .i64 15,.int .i64 n,.slice ov lv cv,.slice ot lt ct]] w fun e w'=>e=.returned (.bool (Trm.countsB 15 lv lt))∧Below w.heap.size w w':=by
 rw[show Trm.countsB 15 lv lt=(decide (lv=0)&&decide (lt=1)) from by rw[Bool.eq_iff_iff];simp[Trm.countsB]]
 have g:((lt:Int)==1)=decide (lt=1):=by rw[Bool.eq_iff_iff];simp;try omega
 by_cases h:0<lv
 ·have h1:decide ((0:Int)<(lv:Int))=true:=decide_eq_true (by omega)
  have h2:decide (0<lv)=true:=decide_eq_true h
  have h3:(0:Int)<(lv:Int):=by omega
  rw[decide_eq_false (show ¬lv=0 by omega)]
  simp only[Bool.false_and]
  go_enter func71,ntmps71
  go_wp2_with fail
  all_goals go_ret
  all_goals exact ⟨rfl,Below.one _ _⟩
 ·obtain rfl:lv=0:=by omega
  simp only[decide_true,Bool.true_and]
  clear h
  go_enter func71,ntmps71
  go_wp2_with fail
  all_goals go_ret
  all_goals exact ⟨rfl,Below.one _ _⟩
theorem zfI (n:Int) (ov ot:Option Addr) (lv cv lt ct:Nat) (w:World) (hv:lv≤9223372036854775806):Calls prog 71 #[.agg #[.int .i64 16,.int .i64 n,.slice ov lv cv,.slice ot lt ct]] w fun e w'=>e=.returned (.bool (Trm.countsB 16 lv lt))∧Below w.heap.size w w':=by
 rw[show Trm.countsB 16 lv lt=(decide (lv=0)&&decide (lt=1)) from by rw[Bool.eq_iff_iff];simp[Trm.countsB]]
 have g:((lt:Int)==1)=decide (lt=1):=by rw[Bool.eq_iff_iff];simp;try omega
 by_cases h:0<lv
 ·have h1:decide ((0:Int)<(lv:Int))=true:=decide_eq_true (by omega)
  have h2:decide (0<lv)=true:=decide_eq_true h
  have h3:(0:Int)<(lv:Int):=by omega
  rw[decide_eq_false (show ¬lv=0 by omega)]
  simp only[Bool.false_and]
  go_enter func71,ntmps71
  go_wp2_with fail
  all_goals go_ret
  all_goals exact ⟨rfl,Below.one _ _⟩
 ·obtain rfl:lv=0:=by omega
  simp only[decide_true,Bool.true_and]
  clear h
  go_enter func71,ntmps71
  go_wp2_with fail
  all_goals go_ret
  all_goals exact ⟨rfl,Below.one _ _⟩
theorem zfF (n:Int) (ov ot:Option Addr) (lv cv lt ct:Nat) (w:World) (hv:lv≤9223372036854775806):Calls prog 71 #[.agg #[.int .i64 17,.int .i64 n,.slice ov lv cv,.slice ot lt ct]] w fun e w'=>e=.returned (.bool (Trm.countsB 17 lv lt))∧Below w.heap.size w w':=by
 rw[show Trm.countsB 17 lv lt=(decide (lv=0)&&decide (lt=2)) from by rw[Bool.eq_iff_iff];simp[Trm.countsB]]
 have g:((lt:Int)==2)=decide (lt=2):=by rw[Bool.eq_iff_iff];simp;try omega
 by_cases h:0<lv
 ·have h1:decide ((0:Int)<(lv:Int))=true:=decide_eq_true (by omega)
  have h2:decide (0<lv)=true:=decide_eq_true h
  have h3:(0:Int)<(lv:Int):=by omega
  rw[decide_eq_false (show ¬lv=0 by omega)]
  simp only[Bool.false_and]
  go_enter func71,ntmps71
  go_wp2_with fail
  all_goals go_ret
  all_goals exact ⟨rfl,Below.one _ _⟩
 ·obtain rfl:lv=0:=by omega
  simp only[decide_true,Bool.true_and]
  clear h
  go_enter func71,ntmps71
  go_wp2_with fail
  all_goals go_ret
  all_goals exact ⟨rfl,Below.one _ _⟩
theorem zfP (n:Int) (ov ot:Option Addr) (lv cv lt ct:Nat) (w:World) (hv:lv≤9223372036854775806):Calls prog 71 #[.agg #[.int .i64 18,.int .i64 n,.slice ov lv cv,.slice ot lt ct]] w fun e w'=>e=.returned (.bool (Trm.countsB 18 lv lt))∧Below w.heap.size w w':=by
 rw[show Trm.countsB 18 lv lt=(decide (lv=0)&&decide (lt=2)) from by rw[Bool.eq_iff_iff];simp[Trm.countsB]]
 have g:((lt:Int)==2)=decide (lt=2):=by rw[Bool.eq_iff_iff];simp;try omega
 by_cases h:0<lv
 ·have h1:decide ((0:Int)<(lv:Int))=true:=decide_eq_true (by omega)
  have h2:decide (0<lv)=true:=decide_eq_true h
  have h3:(0:Int)<(lv:Int):=by omega
  rw[decide_eq_false (show ¬lv=0 by omega)]
  simp only[Bool.false_and]
  go_enter func71,ntmps71
  go_wp2_with fail
  all_goals go_ret
  all_goals exact ⟨rfl,Below.one _ _⟩
 ·obtain rfl:lv=0:=by omega
  simp only[decide_true,Bool.true_and]
  clear h
  go_enter func71,ntmps71
  go_wp2_with fail
  all_goals go_ret
  all_goals exact ⟨rfl,Below.one _ _⟩
theorem zfT (n:Int) (ov ot:Option Addr) (lv cv lt ct:Nat) (w:World) (hv:lv≤9223372036854775806):Calls prog 71 #[.agg #[.int .i64 19,.int .i64 n,.slice ov lv cv,.slice ot lt ct]] w fun e w'=>e=.returned (.bool (Trm.countsB 19 lv lt))∧Below w.heap.size w w':=by
 rw[show Trm.countsB 19 lv lt=decide (lv=0) from by rw[Bool.eq_iff_iff];simp[Trm.countsB]]
 by_cases h:0<lv
 ·have h1:decide ((0:Int)<(lv:Int))=true:=decide_eq_true (by omega)
  have h2:decide (0<lv)=true:=decide_eq_true h
  have h3:(0:Int)<(lv:Int):=by omega
  rw[decide_eq_false (show ¬lv=0 by omega)]
  skip
  go_enter func71,ntmps71
  go_wp2_with fail
  all_goals go_ret
  all_goals exact ⟨rfl,Below.one _ _⟩
 ·obtain rfl:lv=0:=by omega
  simp only[decide_true]
  clear h
  go_enter func71,ntmps71
  go_wp2_with fail
  all_goals go_ret
  all_goals exact ⟨rfl,Below.one _ _⟩
theorem zfR (n:Int) (ov ot:Option Addr) (lv cv lt ct:Nat) (w:World) (hv:lv≤9223372036854775806):Calls prog 71 #[.agg #[.int .i64 20,.int .i64 n,.slice ov lv cv,.slice ot lt ct]] w fun e w'=>e=.returned (.bool (Trm.countsB 20 lv lt))∧Below w.heap.size w w':=by
 rw[show Trm.countsB 20 lv lt=(decide (lv=0)&&decide (lt=0)) from by rw[Bool.eq_iff_iff];simp[Trm.countsB]]
 have g:((lt:Int)==0)=decide (lt=0):=by rw[Bool.eq_iff_iff];simp;try omega
 by_cases h:0<lv
 ·have h1:decide ((0:Int)<(lv:Int))=true:=decide_eq_true (by omega)
  have h2:decide (0<lv)=true:=decide_eq_true h
  have h3:(0:Int)<(lv:Int):=by omega
  rw[decide_eq_false (show ¬lv=0 by omega)]
  simp only[Bool.false_and]
  go_enter func71,ntmps71
  go_wp2_with fail
  all_goals go_ret
  all_goals exact ⟨rfl,Below.one _ _⟩
 ·obtain rfl:lv=0:=by omega
  simp only[decide_true,Bool.true_and]
  clear h
  go_enter func71,ntmps71
  go_wp2_with fail
  all_goals go_ret
  all_goals exact ⟨rfl,Below.one _ _⟩
theorem zgs (n:Int) (ov ot:Option Addr) (lv cv lt ct:Nat) (w:World) (hv:lv≤9223372036854775806):Calls prog 71 #[.agg #[.int .i64 21,.int .i64 n,.slice ov lv cv,.slice ot lt ct]] w fun e w'=>e=.returned (.bool (Trm.countsB 21 lv lt))∧Below w.heap.size w w':=by
 rw[show Trm.countsB 21 lv lt=(decide (lv=0)&&decide (lt=0)) from by rw[Bool.eq_iff_iff];simp[Trm.countsB]]
 have g:((lt:Int)==0)=decide (lt=0):=by rw[Bool.eq_iff_iff];simp;try omega
 by_cases h:0<lv
 ·have h1:decide ((0:Int)<(lv:Int))=true:=decide_eq_true (by omega)
  have h2:decide (0<lv)=true:=decide_eq_true h
  have h3:(0:Int)<(lv:Int):=by omega
  rw[decide_eq_false (show ¬lv=0 by omega)]
  simp only[Bool.false_and]
  go_enter func71,ntmps71
  go_wp2_with fail
  all_goals go_ret
  all_goals exact ⟨rfl,Below.one _ _⟩
 ·obtain rfl:lv=0:=by omega
  simp only[decide_true,Bool.true_and]
  clear h
  go_enter func71,ntmps71
  go_wp2_with fail
  all_goals go_ret
  all_goals exact ⟨rfl,Below.one _ _⟩
theorem zf7 (n:Int) (ov ot:Option Addr) (lv cv lt ct:Nat) (w:World) (hv:lv≤9223372036854775806):Calls prog 71 #[.agg #[.int .i64 22,.int .i64 n,.slice ov lv cv,.slice ot lt ct]] w fun e w'=>e=.returned (.bool (Trm.countsB 22 lv lt))∧Below w.heap.size w w':=by
 rw[show Trm.countsB 22 lv lt=(decide (lv=0)&&decide (1≤lt)) from by rw[Bool.eq_iff_iff];simp[Trm.countsB]]
 have g:decide ((1:Int)≤(lt:Int))=decide (1≤lt):=by rw[decide_eq_decide];omega
 by_cases h:0<lv
 ·have h1:decide ((0:Int)<(lv:Int))=true:=decide_eq_true (by omega)
  have h2:decide (0<lv)=true:=decide_eq_true h
  have h3:(0:Int)<(lv:Int):=by omega
  rw[decide_eq_false (show ¬lv=0 by omega)]
  simp only[Bool.false_and]
  go_enter func71,ntmps71
  go_wp2_with fail
  all_goals go_ret
  all_goals exact ⟨rfl,Below.one _ _⟩
 ·obtain rfl:lv=0:=by omega
  simp only[decide_true,Bool.true_and]
  clear h
  go_enter func71,ntmps71
  go_wp2_with fail
  all_goals go_ret
  all_goals exact ⟨rfl,Below.one _ _⟩
end
section
namespace Mdl
theorem zkG {nc nk:Int} {fr:Bool} {x:Trm}:Trm.wf nc nk fr x (fun y=>([]:List Int).contains y)=Trm.wf nc nk fr x (fun _=>false):=by
 have:(fun y=>([]:List Int).contains y)=fun (_:Int)=>false:=by funext y;simp
 rw[this]
theorem zkH {nc nk:Int} {fr:Bool} {x:Trm} (v:List Int):Trm.wf nc nk fr x (fun y=>v.contains y)=Trm.wf nc nk fr x (Trm.addV (fun _=>false) v):=by
 have:(fun y=>v.contains y)=Trm.addV (fun _=>false) v:=by funext y;simp[Trm.addV]
 rw[this]
theorem zdv {nc nk:Int}:∀(l:List Cod) (s r:Int × List Int),Trm.newB (fun _=>false) s.2=true→s.1≤20000→rcodes nc nk l s=some r→codesB nc nk l (setOf s.2)=true∧r.1=s.1+(l.map fun c=>c.body.all).sum∧r.1≤20000
 | [],s,r,hn,hs,h=>by
  rw[rcodes] at h
  obtain rfl:=Option.some.inj h
  exact ⟨by rw[codesB],by simp,hs⟩
 | c::l,s,r,hn,hs,h=>by
  rw[rcodes] at h
  split at h
  ·rename_i hc
   rw[Bool.and_eq_true] at hc
   cases hb:Trm.rchk nc nk true c.body c.v 0 (s.1,s.2++c.v) with
   | none=>rw[hb] at h;cases h
   | some s'=>
    rw[hb] at h
    obtain ⟨g1,rfl,g3,g4⟩:=Trm.rsay c.body nc nk true c.v 0 _ _ hc.1 hb
    have ih:=zdv l _ r g3 g4 h
    rw[zbR (_b:=[]) hn]
    refine ⟨?_,?_,ih.2.2⟩
    ·rw[hc.2,g3,←zkH,g1,ih.1]
     rfl
    ·rw[ih.2.1]
     simp only[List.map_cons,List.sum_cons]
     omega
  ·cases h
theorem zcZ {nc nk:Int}:∀(l:List Cod) (s:Int × List Int),Trm.newB (fun _=>false) s.2=true→codesB nc nk l (setOf s.2)=true→s.1+(l.map fun c=>c.body.all).sum≤20000→(∀c∈l,c.body.all≤401)→(rcodes nc nk l s).isSome=true
 | [],s,hn,h,hs,hd=>by rw[rcodes];rfl
 | c::l,s,hn,h,hs,hd=>by
  rw[zbR (_b:=[]) hn] at h
  simp only[Bool.and_eq_true] at h
  obtain ⟨h1,h2,h3,h4⟩:=h
  simp only[List.map_cons,List.sum_cons] at hs
  have h5:=hd c (by simp)
  have h6:=Trm.rtake c.body nc nk true c.v 0 (s.1,s.2++c.v) (by rw[zkH];exact h3) h2 (by dsimp only;omega) (by omega)
  rw[rcodes,if_pos (by rw[Bool.and_eq_true];exact ⟨zaO h2,h1⟩),h6]
  exact zcZ l _ h2 h4 (by dsimp only;omega) fun c hc=>hd c (by simp[hc])
theorem rok_ok {m:Mdl} (h:m.rokB=true):m.okB=true∧m.all≤20000:=by
 rw[rokB,Bool.and_eq_true] at h
 obtain ⟨h1,h2⟩:=h
 cases hb:Trm.rchk m.consts.length m.codes.length false m.body [] 0 (0,[]) with
 | none=>rw[hb] at h2;cases h2
 | some s=>
  rw[hb] at h2
  obtain ⟨g1,rfl,g3,g4⟩:=Trm.rsay m.body _ _ _ _ _ _ _ rfl hb
  obtain ⟨r,hr⟩:=Option.isSome_iff_exists.1 h2
  have h3:=zdv m.codes _ r g3 g4 hr
  rw[zkG] at g1
  refine ⟨?_,?_⟩
  ·rw[okB,h1,g1]
   simp only[List.nil_append] at g3 h3
   rw[g3,show Trm.addV (fun _=>false) m.body.bnd=setOf m.body.bnd from rfl,h3.1]
   rfl
  ·have h4:=h3.2.1
   have h5:=h3.2.2
   unfold Mdl.all
   dsimp only at h4
   omega
theorem zmk {m:Mdl} (h:m.okB=true) (hs:m.all≤20000) (hd:m.body.all≤401∧∀c∈m.codes,c.body.all≤401):m.rokB=true:=by
 rw[okB] at h
 simp only[Bool.and_eq_true] at h
 obtain ⟨h1,⟨h2,h3⟩,h4⟩:=h
 unfold Mdl.all at hs
 have h5:=Trm.rtake m.body m.consts.length m.codes.length false [] 0 (0,[]) (by rw[zkG];exact h2) (by simpa using h3) (by dsimp only;omega) (by omega)
 rw[rokB,h1,h5,Bool.true_and]
 exact zcZ m.codes _ (by simpa using h3) (by simpa[setOf] using h4) (by dsimp only;omega) hd.2
theorem zmb {m:Mdl} (hs:m.all≤20000) (hd:m.body.all≤401∧∀c∈m.codes,c.body.all≤401):m.rokB=m.okB:=by
 rw[Bool.eq_iff_iff]
 exact ⟨fun h=>(rok_ok h).1,fun h=>zmk h hs hd⟩
end Mdl
end
section
open Go Go.RowKit Mk
theorem zcW {W:World} {ops:Array Oper} {o:Oper} {a:Act} {K:Act→World→Prop} {Q:Exit→Act→World→Prop} {E:Prop} (hgd:o.guard=none) (s x:Operand)
  (ho:o.op=.call { callee:=.builtin .append,args:=#[s,x],argTypes:=#[44,44] }) (base k mb:Nat) (cv:Value) (xs rs:List Value) (p d q b:Int) (ol:Option Addr) (ll cl:Nat) (hs:a.eval s=cv)
  (hown:Hid (W.ownsRow base 49 5 cv k xs)) (hm:Hid (BoxL W mb 86 (cv::rs))) (hx:a.eval x=.slice (some ⟨W.heap.size,0,none⟩) 1 1) (hk:k≤1000000) (hb:base≤W.heap.size)
  (h:∀g cap w',Hid (w'.ownsRow base 49 5 (.slice (some ⟨g,0,none⟩) (k+1) cap) (k+1) (xs++[.int .i64 p,.int .i64 d,.int .i64 q,.int .i64 b,.slice ol ll cl]))→Hid ((W.alloc (.cells #[.int .i64 p,.int .i64 d,.int .i64 q,.int .i64 b,.slice ol ll cl] 49)).grownBy w' cv.ownBlock)→Hid (cv.ownBlock=some g∨g=W.heap.size+1) →
   Hid (BoxL w' mb 86 (cv::rs))→w'.cell? ⟨mb,0,none⟩=some cv→w'.frozen? ⟨mb,0,none⟩=false→mb<w'.heap.size→K (a.put o.dst (.slice (some ⟨g,0,none⟩) (k+1) cap)) w') :
  if Region.wanted o (yielded ops a.tmps)=true then Oper.wp prog o a (W.alloc (.cells #[.int .i64 p,.int .i64 d,.int .i64 q,.int .i64 b,.slice ol ll cl] 49)).drew K Q else E:=by
 have hw:Region.wanted o (yielded ops a.tmps)=true:=by simp[Region.wanted,hgd]
 rw[if_pos hw]
 obtain ⟨i0,hi0,hz0,hz1,hz2⟩:=info_parts ze2
 refine wp_append_lies _ s x 44 ho base 49 i0 (.agg #[.int .i64 0,.int .i64 0,.int .i64 0,.int .i64 0,.slice none 0 0]) 5 56 underlying44 hi0 hz0 hz1 hz2 rfl (by decide) cv k xs hs (hown.out.alloc _) ⟨W.heap.size,0,none⟩ 1 1 [.int .i64 p,.int .i64 d,.int .i64 q,.int .i64 b,.slice ol ll cl] hx rfl (zaS W _ _) (by intro u hu;simp only[List.mem_cons,List.not_mem_nil,or_false] at hu;rcases hu with rfl | rfl | rfl | rfl | rfl<;>rfl) (by decide) (by unfold maxLen;omega) (by omega) (by show base≤(W.alloc _).heap.size;simp;omega) (W.heap.size+1) (by show (W.alloc _).heap.size=_;simp) ?_
 intro g cap w' h1 h2 h3 _
 have h2':(W.alloc (.cells #[.int .i64 p,.int .i64 d,.int .i64 q,.int .i64 b,.slice ol ll cl] 49)).grownBy w' cv.ownBlock:=zcb h2
 have hbx:BoxL w' mb 86 (cv::rs):=(zbS h2').box hm.out (fun e=>zap hown.out e hm.out (by decide) rfl)
 exact h g cap w' (zh h1) (zh h2') (zh h3) (zh hbx) (hbx.cell 0 rfl) (hbx.free 0) hbx.lt
theorem zi8 {W W2 w5:World} {B base mb g cap:Nat} {K:KV} {X:Nat→Prop} {s:MSt} {O:Obj} {x:Ins} {sl:Value} {xs:List Value} (h:ZkIn W B base mb K X s) (hb:Below W.heap.size W W2) (hrow:W.ownsRow base 49 5 K.c s.code.length xs) (hcell:CellsG 5 (InsM W (fun b=>SZ mb K b∨X b)) s.code xs) (hop:I64 x.op) (hd:I64 x.d) (ha:I64 x.a) (hbb:I64 x.b) (hl:IntsM W (fun b=>SZ mb K b∨X b) x.l sl)
  (hg:(W2.alloc O).grownBy w5 K.c.ownBlock) (he:K.c.ownBlock=some g∨g=W2.heap.size+1) (ho:w5.ownsRow base 49 5 (.slice (some ⟨g,0,none⟩) (s.code.length+1) cap) (s.code.length+1) (xs++[.int .i64 x.op,.int .i64 x.d,.int .i64 x.a,.int .i64 x.b,sl])) :
  ZkGo B base mb K ⟨.slice (some ⟨g,0,none⟩) (s.code.length+1) cap,K.v,K.a⟩ X (s.put x) W (w5.setCell ⟨mb,0,none⟩ (.slice (some ⟨g,0,none⟩) (s.code.length+1) cap)):=by
 have hz:=hb.size
 have T1:Turned (fun b=>K.c.ownBlock=some b) W w5:=(Turned.of_below hb).next (zbS hg)
 have b5:=T1.box h.st.box (fun e=>zap hrow e h.st.box (by decide) rfl)
 have T2:Turned (fun b=>b=mb) w5 (w5.setCell ⟨mb,0,none⟩ (.slice (some ⟨g,0,none⟩) (s.code.length+1) cap)):=Turned.set _ _ _ rfl
 have T:Turned (fun b=>b=mb∨K.c.ownBlock=some b) W (w5.setCell ⟨mb,0,none⟩ (.slice (some ⟨g,0,none⟩) (s.code.length+1) cap)):=(T1.wider fun b _ h=>.inr h).next (T2.wider fun b _ h=>.inl h)
 have hTZ:Turned (SZ mb K) W (w5.setCell ⟨mb,0,none⟩ (.slice (some ⟨g,0,none⟩) (s.code.length+1) cap)):=T.wider fun b _ h=>h.imp id .inl
 have hless:∀b,b<W.heap.size→SZ mb ⟨.slice (some ⟨g,0,none⟩) (s.code.length+1) cap,K.v,K.a⟩ b→SZ mb K b:=fun b hlt hs=>by
  rcases hs with hs | hs | hs
  ·exact .inl hs
  ·have e:g=b:=by simpa[Value.ownBlock] using hs
   subst e
   rcases he with h2 | h2
   ·exact .inr (.inl h2)
   ·omega
  ·exact .inr (.inr hs)
 have hX:∀b,b<W.heap.size→(SZ mb ⟨.slice (some ⟨g,0,none⟩) (s.code.length+1) cap,K.v,K.a⟩ b∨X b)→(SZ mb K b∨X b):=fun b hb h=>h.imp (hless b hb) id
 have hnot:∀{v:Value} {n:Nat} {ys:List Value},W.ownsRow base 3 1 v n ys→∀b,v.ownBlock=some b→¬(b=mb∨K.c.ownBlock=some b):=fun hv b hb hs=>by
  rcases hs with hs | hs
  ·exact zap hv hb h.st.box (by decide) hs
  ·exact zbm hv hb hrow hs (by decide) rfl
 refine ⟨⟨⟨b5.set 0 _,⟨xs++[.int .i64 x.op,.int .i64 x.d,.int .i64 x.a,.int .i64 x.b,sl],?_,?_⟩,zaU h.st.vars T (hnot h.st.vars),zaU h.st.regs T (hnot h.st.regs),h.st.ne,h.st.i64⟩,h.b1,h.b2,Nat.le_trans h.b4 T.size,fun b hb=>Nat.lt_of_lt_of_le (h.bx b hb) T.size⟩,hTZ,hless,hTZ.below h.low h.size⟩
 ·rw[show (s.put x).code.length=s.code.length+1 by simp[MSt.put]]
  exact zaU ho T2 (fun b hb e=>zap ho hb b5 (by decide) e)
 ·exact CellsG.snoc (x:=x) (cs:=[.int .i64 x.op,.int .i64 x.d,.int .i64 x.a,.int .i64 x.b,sl]) rfl ⟨sl,rfl,hop,hd,ha,hbb,hl.kept hTZ (fun _ _ h=>.inl h) hX⟩ (hcell.mono fun y _ cs hy=>hy.kept hTZ (fun _ _ h=>.inl h) hX)
theorem zal {B base mb:Nat} {K:KV} {X:Nat→Prop} {s:MSt} (p d q b:Int) (l:List Int) (ol:Option Addr) (ll cl:Nat) (W:World) (h:ZkIn W B base mb K X s) (hk:s.code.length≤1000000) (hop:I64 p) (hd:I64 d) (ha:I64 q) (hb:I64 b) (hl:IntsM W (fun b=>SZ mb K b∨X b) l (.slice ol ll cl)) :
  Calls prog 78 #[.pointer (some ⟨mb,0,none⟩),.agg #[.int .i64 p,.int .i64 d,.int .i64 q,.int .i64 b,.slice ol ll cl]] W fun e w'=>e=.returned (.tuple #[])∧∃K',ZkGo B base mb K K' X (s.put ⟨p,d,q,b,l⟩) W w':=by
 obtain ⟨xs,hrow,hcell⟩:=h.st.row
 obtain ⟨oc,cc,hkc⟩:=zbg hrow
 obtain ⟨W2,hW2⟩:∃W2,W.alloc (.cells #[.int .i64 p,.int .i64 d,.int .i64 q,.int .i64 b,.slice ol ll cl] 49)=W2:=⟨_,rfl⟩
 have HWE:=zh hW2
 have HB2:=zh (show Below W.heap.size W W2 from by rw[←hW2];exact Below.one W _)
 have BI:=zh (show BoxL W2 W.heap.size 49 [.int .i64 p,.int .i64 d,.int .i64 q,.int .i64 b,.slice ol ll cl] from by rw[←hW2];exact BoxL.new rfl _ _)
 have HM:=zh (h.st.box.keep HB2.out)
 have HO:=zh (zam hrow HB2.out)
 have hbs:base≤W2.heap.size:=Nat.le_trans h.b4 HB2.out.size
 have HEND:=zh (fun (g cap:Nat) (w5:World) hg he ho=>zi8 (x:=⟨p,d,q,b,l⟩) (g:=g) (cap:=cap) (w5:=w5) (O:=.cells #[.int .i64 p,.int .i64 d,.int .i64 q,.int .i64 b,.slice ol ll cl] 49) h HB2.out hrow hcell hop hd ha hb hl hg he ho)
 obtain ⟨KC,KV,KA⟩:=K
 dsimp only at hkc HM HO HEND
 subst hkc
 clear h hW2 hrow hcell hl
 go_enter func78,ntmps78
 go_upto_region 1 with fail
 rw[HWE.out]
 have i0:=BI.out.cell 0 rfl
 have i1:=BI.out.cell 1 rfl
 have i2:=BI.out.cell 2 rfl
 have i3:=BI.out.cell 3 rfl
 have i4:=BI.out.cell 4 rfl
 have hil:=BI.out.lt
 have x0:=HM.out.cell 0 rfl
 have hxl:=HM.out.lt
 go_region_law (refine zcW rfl (.tmp 8) (.tmp 10) rfl base s.code.length mb _ xs _ p d q b ol ll cl rfl HO HM rfl hk hbs ?_;intro g cap w5 HO5 HG5 HE5 HM5 z0 z1 z2)
 all_goals
  have HE:=zh (HEND.out g cap w5 HG5.out HE5.out HO5.out)
  go_wp2_with fail
  go_end0
  exact ⟨rfl,_,HE.out⟩
end
section
open Go Go.RowKit Mk
theorem zc4 {lk:List (Int × Int)→Int→Int} (hl:Mk.LkOk lk):∀(l:List Trm) (s:MSt) (k:Nat),Room s (k+(6*Trm.allL l-l.length))→Room (Mk.allT lk l s).2 k
 | [],s,k,h=>by rw[Mk.allT];exact h.mono (by omega)
 | x::l,s,k,h=>by
  have hk:=Trm.allL_length l
  have hx:=x.all_pos
  simp only[Trm.allL,List.length_cons] at h
  rw[Mk.allT]
  exact zc4 hl l _ k (Room.had hl x (Room.into hl x) (h.mono (k':=k+(6*Trm.allL l-l.length)+(6*x.all-1)) (by omega))).1
theorem ziH (e:Bool) (n:Int) (v:List Int) (l:List Trm) (x:Trm) (hl:AllC l) (hx:IntoC e x) (c0 c1 c2 c3:Value) (B base mb vb:Nat) (cv:Value) (X:Nat→Prop) (s:MSt) (d:Int) (nc nk:Int) (fr:Bool) (sc sc':Int→Bool) (W:World)
  (hv:TrmR W B (.mk 6 n v (l++[x])) [c0,c1,c2,c3]) (hm:MkIn W B base mb vb cv X s) (hwl:∀y∈l,Trm.wf nc nk fr y sc=true) (hwx:Trm.wf nc nk fr x sc'=true) (hroom:Room s (6*Trm.allL (l++[x])+4)) (hd:0≤d∧d≤1900000) :
  Calls prog 34 #[.pointer (some ⟨mb,0,none⟩),.agg #[c0,c1,c2,c3],.int .i64 d,.bool e] W fun r w'=>r=.returned (.tuple #[])∧∃cv',MkGo B base mb vb cv cv' X (Mk.into Mk.lkL x d e (Mk.allT Mk.lkL l s).2) W w':=by
 obtain ⟨W1,hW1⟩:∃W1,W.alloc (.cells #[c0,c1,c2,c3] 27)=W1:=⟨_,rfl⟩
 have hsz:=hm.size
 have hv1:TrmR W1 B (.mk 6 n v (l++[x])) [c0,c1,c2,c3]:=TrmR.kept (by rw[←hW1];exact (Below.one W _).mono hsz) _ _ hv
 obtain ⟨ov,lv,cvv,ot,lt,ct,rfl,rfl,rfl,rfl,hn,HBX,HM,HT,HV,HB1,hlt,hlv⟩:=zav W B base mb vb cv X s _ n v _ _ _ _ _ hv hm W1 hW1
 have HW:=zh hW1
 have HLV:=zh hlv
 obtain ⟨L,hL⟩:∃L,l.length=L:=⟨_,rfl⟩
 have HL0:=zh hL
 obtain rfl:lt=L+1:=by rw[hlt,←hL];simp
 obtain ⟨tb,off,x0,x1,x2,x3,rfl,hpx⟩:=TrmS.part HT.out (i:=L) (x:=x) (by rw[←hL];simp)
 obtain ⟨hltc,hltm⟩:=(SlC.lens HT.out).2
 have hTl:TrmS W1 B l (.slice (some ⟨tb,off,none⟩) L ct):=by
  have:=SlC.takes (n:=L) HT.out (by omega)
  rwa[show (l++[x]).take L=l from by rw[←hL,List.take_left]] at this
 have HPX:=zh hpx
 have HTL:=zh hTl
 have HX:=zh hx
 have HWX:=zh hwx
 rw[zaz,show Trm.allL [x]=x.all by simp[Trm.allL]] at hroom
 have HRO:=zh hroom
 have hxp:=x.all_pos
 have hlp:=Trm.allL_length l
 have hLi:((L+1:Nat):Int)-1=(L:Int):=by omega
 have e0:=HBX.out.cell 0 rfl
 have e3:=HBX.out.cell 3 rfl
 have el:=HBX.out.lt
 have HA:=zh (hl (.slice (some ⟨tb,off,none⟩) L ct) B base mb vb cv X s nc nk fr sc W1 hTl HM.out hwl (hroom.mono (by omega)))
 have hra:=Room.allT (k:=6*x.all+4) Mk.lkL_ok l s (hroom.mono (by omega))
 have HPL0:=zh (zae Mk.lkL l s)
 obtain ⟨p,hp⟩:∃p,Mk.allT Mk.lkL l s=p:=⟨_,rfl⟩
 rw[hp] at HA hra HPL0
 have HP:=zh hp
 have HRA:=zh hra
 clear hv hv1 hm hW1 hroom hlt hlv hn hx hpx hTl hwx hL hl hwl hra hp
 go_enter func34,ntmps34
 go_upto_region 1 with fail
 rw[HW.out]
 go_wp2_with fail
 with_reducible refine HA.out.mono ?_
 rintro r w5 ⟨rv,rfl,cv5,hg5,hi5⟩
 have HG5:=zh hg5
 have HR5:=zh HRA.out.1
 clear hg5 hi5 e0 e3 el HA
 have HBX5:=zh (HG5.out.box HM.out HBX.out (by decide) (by decide))
 have HPX5:=zh (HPX.out.kept HG5.out.low)
 obtain ⟨qa,qb,qc,qd,qe,qf,rfl,rfl,rfl,rfl,_⟩:=TrmR.shape HPX5.out.r
 have HI:=zh (HX.out _ _ _ _ B base mb vb cv5 X _ d nc nk fr sc' w5 HPX5.out.r HG5.out.inn HWX.out (HR5.out.mono (by omega)) hd)
 have e0:=HBX5.out.cell 0 rfl
 have e3:=HBX5.out.cell 3 rfl
 have el:=HBX5.out.lt
 have q0:=HPX5.out.e0
 have q1:=HPX5.out.e1
 have q2:=HPX5.out.e2
 have q3:=HPX5.out.e3
 have ql:=HPX5.out.size
 go_wp2_with fail
 with_reducible refine HI.out.mono ?_
 rintro r w6 ⟨rfl,cv6,hg6⟩
 have HG9:=zh ((HG5.out.next hg6).before HB1.out hsz)
 clear hg6 HI e0 e3 el q0 q1 q2 q3 ql
 go_wp2_with fail
 first | go_end0 | (refine bodyPost_ret (results_none rfl _ _ _) rfl ?_)
 exact ⟨rfl,_,by rw[HP.out];exact HG9.out⟩
theorem zi2 (e:Bool) (n:Int) (v:List Int) (l:List Trm) (x:Trm) (hlv0:l.length=v.length) (hl:∀y∈l++[x],AllC y.t) (hx:IntoC e x) (c0 c1 c2 c3:Value) (B base mb vb:Nat) (cv:Value) (X:Nat→Prop) (s:MSt) (d:Int) (nc nk:Int) (fr:Bool) (sc sc':Int→Bool) (W:World)
  (hv:TrmR W B (.mk 9 n v (l++[x])) [c0,c1,c2,c3]) (hm:MkIn W B base mb vb cv X s) (hwl:∀(j:Nat) y,j<v.length→(l++[x])[j]?=some y→∀z∈y.t,Trm.wf nc nk fr z sc=true) (hwx:Trm.wf nc nk fr x sc'=true) (hroom:Room s (6*Trm.allL (l++[x])+4)) (hd:0≤d∧d≤1900000) :
  Calls prog 34 #[.pointer (some ⟨mb,0,none⟩),.agg #[c0,c1,c2,c3],.int .i64 d,.bool e] W fun r w'=>r=.returned (.tuple #[])∧∃cv',MkGo B base mb vb cv cv' X (Mk.into Mk.lkL x d e (Mk.fill Mk.lkL v (l++[x]) (Mk.fix1 v (l++[x]) s))) W w':=by
 obtain ⟨W1,hW1⟩:∃W1,W.alloc (.cells #[c0,c1,c2,c3] 27)=W1:=⟨_,rfl⟩
 have hsz:=hm.size
 have hv1:TrmR W1 B (.mk 9 n v (l++[x])) [c0,c1,c2,c3]:=TrmR.kept (by rw[←hW1];exact (Below.one W _).mono hsz) _ _ hv
 obtain ⟨ov,lv,cvv,ot,lt,ct,rfl,rfl,rfl,rfl,hn,HBX,HM,HT,HV,HB1,hlt,hlv⟩:=zav W B base mb vb cv X s _ n v _ _ _ _ _ hv hm W1 hW1
 have HW:=zh hW1
 have HLV:=zh hlv
 obtain ⟨L,hL⟩:∃L,l.length=L:=⟨_,rfl⟩
 have HL0:=zh hL
 obtain rfl:lt=L+1:=by rw[hlt,←hL];simp
 obtain ⟨tb,off,x0,x1,x2,x3,rfl,hpx⟩:=TrmS.part HT.out (i:=L) (x:=x) (by rw[←hL];simp)
 obtain ⟨hltc,hltm⟩:=(SlC.lens HT.out).2
 have hTl:TrmS W1 B l (.slice (some ⟨tb,off,none⟩) L ct):=by
  have:=SlC.takes (n:=L) HT.out (by omega)
  rwa[show (l++[x]).take L=l from by rw[←hL,List.take_left]] at this
 have HPX:=zh hpx
 have HTL:=zh hTl
 have HX:=zh hx
 have HWX:=zh hwx
 rw[zaz,show Trm.allL [x]=x.all by simp[Trm.allL]] at hroom
 have HRO:=zh hroom
 have hxp:=x.all_pos
 have hlp:=Trm.allL_length l
 have hLi:((L+1:Nat):Int)-1=(L:Int):=by omega
 have e0:=HBX.out.cell 0 rfl
 have e3:=HBX.out.cell 3 rfl
 have el:=HBX.out.lt
 have HA:=zh (zlr 9 n v (l++[x]) (by simp[hlv0]) hl _ _ _ _ B base mb vb cv X s nc nk fr sc W1 hv1 HM.out hwl (by rw[zaz,show Trm.allL [x]=x.all by simp[Trm.allL]];exact hroom))
 have hrf:Room (Mk.fill Mk.lkL v (l++[x]) (Mk.fix1 v (l++[x]) s)) (6*x.all-2):=by
  have e1:Mk.fill Mk.lkL v (l++[x]) (Mk.fix1 v (l++[x]) s)=Mk.fill Mk.lkL v l (Mk.fix1 v (l++[x]) s):=by
   rw[←Mk.fill_take Mk.lkL v (l++[x]),←hlv0,List.take_left]
  rw[e1]
  refine Room.fill Mk.lkL_ok v l (Room.fix1 v (l++[x]) (hroom.mono ?_))
  simp only[List.length_append,List.length_singleton]
  omega
 have HRF:=zh hrf
 clear hv hv1 hm hW1 hroom hlt hlv hn hx hpx hTl hwx hL hl hwl hrf hlv0
 go_enter func34,ntmps34
 go_upto_region 1 with fail
 rw[HW.out]
 have e1:=HBX.out.cell 1 rfl
 have e2:=HBX.out.cell 2 rfl
 go_wp2_with fail
 with_reducible refine HA.out.mono ?_
 rintro r w5 ⟨rfl,cv5,hg5⟩
 have HG5:=zh hg5
 have HR5:=zh HRF.out
 clear hg5 e0 e1 e2 e3 el HA
 have HBX5:=zh (HG5.out.box HM.out HBX.out (by decide) (by decide))
 have HPX5:=zh (HPX.out.kept HG5.out.low)
 obtain ⟨qa,qb,qc,qd,qe,qf,rfl,rfl,rfl,rfl,_⟩:=TrmR.shape HPX5.out.r
 have HI:=zh (HX.out _ _ _ _ B base mb vb cv5 X _ d nc nk fr sc' w5 HPX5.out.r HG5.out.inn HWX.out (HR5.out.mono (by omega)) hd)
 have e0:=HBX5.out.cell 0 rfl
 have e3:=HBX5.out.cell 3 rfl
 have el:=HBX5.out.lt
 have q0:=HPX5.out.e0
 have q1:=HPX5.out.e1
 have q2:=HPX5.out.e2
 have q3:=HPX5.out.e3
 have ql:=HPX5.out.size
 go_wp2_with fail
 with_reducible refine HI.out.mono ?_
 rintro r w6 ⟨rfl,cv6,hg6⟩
 have HG9:=zh ((HG5.out.next hg6).before HB1.out hsz)
 clear hg6 HI e0 e3 el q0 q1 q2 q3 ql
 go_wp2_with fail
 first | go_end0 | (refine bodyPost_ret (results_none rfl _ _ _) rfl ?_)
 exact ⟨rfl,_,HG9.out⟩
theorem ziG (e:Bool) (n:Int) (v:List Int) (l:List Trm) (x:Trm) (hlv0:l.length=v.length) (hl:AllC l) (hx:IntoC e x) (c0 c1 c2 c3:Value) (B base mb vb:Nat) (cv:Value) (X:Nat→Prop) (s:MSt) (d:Int) (nc nk:Int) (fr:Bool) (sc sc':Int→Bool) (W:World)
  (hv:TrmR W B (.mk 8 n v (l++[x])) [c0,c1,c2,c3]) (hm:MkIn W B base mb vb cv X s) (hwl:∀y∈l,Trm.wf nc nk fr y sc=true) (hwx:Trm.wf nc nk fr x sc'=true) (hroom:Room s (6*Trm.allL (l++[x])+4)) (hd:0≤d∧d≤1900000) :
  Calls prog 34 #[.pointer (some ⟨mb,0,none⟩),.agg #[c0,c1,c2,c3],.int .i64 d,.bool e] W fun r w'=>r=.returned (.tuple #[])∧∃cv',MkGo B base mb vb cv cv' X (Mk.into Mk.lkL x d e ((Mk.allT Mk.lkL l s).2.bind v (Mk.allT Mk.lkL l s).1)) W w':=by
 obtain ⟨W1,hW1⟩:∃W1,W.alloc (.cells #[c0,c1,c2,c3] 27)=W1:=⟨_,rfl⟩
 have hsz:=hm.size
 have hv1:TrmR W1 B (.mk 8 n v (l++[x])) [c0,c1,c2,c3]:=TrmR.kept (by rw[←hW1];exact (Below.one W _).mono hsz) _ _ hv
 obtain ⟨ov,lv,cvv,ot,lt,ct,rfl,rfl,rfl,rfl,hn,HBX,HM,HT,HV,HB1,hlt,hlv⟩:=zav W B base mb vb cv X s _ n v _ _ _ _ _ hv hm W1 hW1
 have HW:=zh hW1
 have HLV:=zh hlv
 obtain ⟨L,hL⟩:∃L,l.length=L:=⟨_,rfl⟩
 have HL0:=zh hL
 obtain rfl:lt=L+1:=by rw[hlt,←hL];simp
 obtain ⟨tb,off,x0,x1,x2,x3,rfl,hpx⟩:=TrmS.part HT.out (i:=L) (x:=x) (by rw[←hL];simp)
 obtain ⟨hltc,hltm⟩:=(SlC.lens HT.out).2
 have hTl:TrmS W1 B l (.slice (some ⟨tb,off,none⟩) L ct):=by
  have:=SlC.takes (n:=L) HT.out (by omega)
  rwa[show (l++[x]).take L=l from by rw[←hL,List.take_left]] at this
 have HPX:=zh hpx
 have HTL:=zh hTl
 have HX:=zh hx
 have HWX:=zh hwx
 rw[zaz,show Trm.allL [x]=x.all by simp[Trm.allL]] at hroom
 have HRO:=zh hroom
 have hxp:=x.all_pos
 have hlp:=Trm.allL_length l
 have hLi:((L+1:Nat):Int)-1=(L:Int):=by omega
 have e0:=HBX.out.cell 0 rfl
 have e3:=HBX.out.cell 3 rfl
 have el:=HBX.out.lt
 have HA:=zh (hl (.slice (some ⟨tb,off,none⟩) L ct) B base mb vb cv X s nc nk fr sc W1 hTl HM.out hwl (hroom.mono (by omega)))
 have hra:=Room.allT (k:=6*x.all+4) Mk.lkL_ok l s (hroom.mono (by omega))
 have HPL0:=zh (zae Mk.lkL l s)
 obtain ⟨p,hp⟩:∃p,Mk.allT Mk.lkL l s=p:=⟨_,rfl⟩
 rw[hp] at HA hra HPL0
 have HP:=zh hp
 have HRA:=zh hra
 have HLV0:=zh hlv0
 clear hv hv1 hm hW1 hroom hlt hlv hn hx hpx hTl hwx hL hl hwl hra hp hlv0
 go_enter func34,ntmps34
 go_upto_region 1 with fail
 rw[HW.out]
 go_wp2_with fail
 with_reducible refine HA.out.mono ?_
 rintro r w2 ⟨rv,rfl,cv5,hg2,hi2⟩
 obtain ⟨ol,ll,cl,rfl⟩:=hi2.1.form
 have HG2:=zh hg2
 have HI2:=zh hi2
 have HLL:=zh (show ll=L from by rw[hi2.1.lens.1,HPL0.out,HL0.out])
 obtain ⟨_,hlc,hlm⟩:=hi2.1.lens
 clear hg2 hi2 e0 e3 el HA
 go_wp2_with fail
 go_loopg [58] ll (fun g i wr=>∃(j:Nat),g=ll-j∧i=.int .i64 j∧j≤ll∧Hid (MkGo B base mb vb cv5 cv5 X (p.2.bind (v.take j) (p.1.take j)) w2 wr))
 case atStart=>exact ⟨0,rfl,rfl,by omega,zh (by simpa[MSt.bind] using MkGo.refl HG2.out.inn)⟩
 case round=>
  obtain ⟨j,rfl,rfl,hj,HG⟩:=hrel
  have HBX3:=zh ((HG2.out.next HG.out).box HM.out HBX.out (by decide) (by decide))
  by_cases hjl:j<ll
  ·obtain ⟨y,hy⟩:∃y,v[j]?=some y:=⟨_,List.getElem?_eq_getElem (by have:=HLL.out;have:=HLV0.out;have:=HL0.out;omega)⟩
   obtain ⟨r0,hr0⟩:∃r0,p.1[j]?=some r0:=⟨_,List.getElem?_eq_getElem (by have:=HLL.out;have:=HPL0.out;have:=HL0.out;omega)⟩
   obtain ⟨yb,yoff,hyo,hyb,hyc,hyi⟩:=SlC.int (HV.out.kept (HG2.out.low.trans HG.out.low) fun _ _ _ h=>h) hy
   obtain ⟨gb,goff,hgo,hgb,hgc,hgi⟩:=SlC.int (IntsM.go HI2.out HG.out).1 hr0
   subst hyo hgo
   have hyl:=zac hyc
   have hgl:=zac hgc
   have HYI:=zh hyi
   have HGI:=zh hgi
   have hjv:j<lv:=by have:=HLL.out;have:=HLV0.out;have:=HLV.out;have:=HL0.out;omega
   have HSN:=zh (show p.2.bind (v.take (j+1)) (p.1.take (j+1))=(p.2.bind (v.take j) (p.1.take j)).bind [y] [r0] from by
    simp only[MSt.bind]
    rw[List.take_add_one,hy,List.take_add_one,hr0,List.zip_append (by rw[List.length_take,List.length_take];have:=(List.getElem?_eq_some_iff.1 hy).1;have:=(List.getElem?_eq_some_iff.1 hr0).1;omega),List.append_assoc]
    rfl)
   have hvl:(p.2.bind (v.take j) (p.1.take j)).vars.length<1000000000000:=by
    have h1:=HRA.out.1.2.2.2.2
    simp only[MSt.bind,List.length_append,List.length_zip,List.length_take]
    have:=HLL.out
    have:=HPL0.out
    have h3:=HRO.out.1
    have h4:=HL0.out
    omega
   have m2:=HG.out.inn.st.box.cell 2 rfl
   have ml:=HG.out.inn.st.box.lt
   have e2:=HBX3.out.cell 2 rfl
   have el:=HBX3.out.lt
   clear hy hr0 hyi hgi
   go_upto_region 15 with fail
   have HD:=zh ((Below.refl wr.heap.size wr).drew)
   refine zaa (Below wr.heap.size wr) 10 (by kernel_rfl) (by kernel_rfl) HD.out ?_
   intro T0 _ WW HWW HWW2
   have z0:∀t,(WW t).cell? _=_:=fun t=>((HWW t).cell (p:=⟨yb,yoff+j,none⟩) hyl).trans hyc
   have z1:∀t,(WW t).cell? _=_:=fun t=>((HWW t).cell (p:=⟨W.heap.size,2,none⟩) el).trans e2
   have z2:∀t,(WW t).cell? _=_:=fun t=>((HWW t).cell (p:=⟨mb,2,none⟩) ml).trans m2
   have HWH:=zh HWW
   clear HWW HWW2
   simp only[List.take_succ_cons,List.take_zero,List.drop_succ_cons,List.drop_zero]
   repeat (go_big_quiet_step (fail))
   refine wpQuiet_nil ?_
   intro t'
   obtain ⟨W3,hW3⟩:∃W3,WW t'=W3:=⟨_,rfl⟩
   have HB3:=zh (show Below wr.heap.size wr W3 from hW3 ▸ HWH.out t')
   rw[hW3]
   clear z0 z1 z2 hW3 HWH hyl hyc m2 ml e2 el hgc hgl
   have HG3:=zh (HG.out.after HB3.out)
   go_wp2_with (at_mapUpdate;refine zcl rfl _ _ _ rfl vb _ _ rfl HG3.out.inn.st.vars hvl y r0 rfl rfl HYI.out HGI.out ?_;intro w4 hm4 hg4;have HG4:=zh (HG3.out.next (HG3.out.inn.bound y r0 hm4 hg4));clear hm4 hg4)
   rw[←HSN.out] at HG4
   clear hvl
   go_roundg (ll-(j+1))
   case measure=>omega
   case rel=>exact ⟨j+1,rfl,by go_num,by omega,HG4⟩
  ·obtain rfl:j=ll:=by omega
   have HE1:=zh (show v.take j=v from List.take_of_length_le (by have:=HLL.out;have:=HLV0.out;have:=HL0.out;omega))
   have HE2:=zh (show p.1.take j=p.1 from List.take_of_length_le (by have:=HLL.out;have:=HPL0.out;have:=HL0.out;omega))
   have hg:=HG2.out.next HG.out
   rw[HE1.out,HE2.out] at hg
   have HG5:=zh hg
   have HR5:=zh (show Room (p.2.bind v p.1) (6*x.all-2) from by
    have h1:=zc4 Mk.lkL_ok l s (6*x.all-2+p.1.length) (HRO.out.mono (by rw[HPL0.out];omega))
    rw[HP.out] at h1
    exact Room.bind v p.1 h1 HRA.out.2)
   clear hg
   have HBX5:=zh (HG5.out.box HM.out HBX.out (by decide) (by decide))
   have HPX5:=zh (HPX.out.kept HG5.out.low)
   obtain ⟨qa,qb,qc,qd,qe,qf,rfl,rfl,rfl,rfl,_⟩:=TrmR.shape HPX5.out.r
   have HI:=zh (HX.out _ _ _ _ B base mb vb cv5 X _ d nc nk fr sc' wr HPX5.out.r HG5.out.inn HWX.out (HR5.out.mono (by omega)) hd)
   have e0:=HBX5.out.cell 0 rfl
   have e3:=HBX5.out.cell 3 rfl
   have el:=HBX5.out.lt
   have q0:=HPX5.out.e0
   have q1:=HPX5.out.e1
   have q2:=HPX5.out.e2
   have q3:=HPX5.out.e3
   have ql:=HPX5.out.size
   go_wp2_with fail
   with_reducible refine HI.out.mono ?_
   rintro r w6 ⟨rfl,cv6,hg6⟩
   have HG9:=zh ((HG5.out.next hg6).before HB1.out hsz)
   clear hg6 HI e0 e3 el q0 q1 q2 q3 ql
   go_wp2_with fail
   first | go_end0 | (refine bodyPost_ret (results_none rfl _ _ _) rfl ?_)
   exact ⟨rfl,_,by rw[HP.out];exact HG9.out⟩
end
end Go.Proofs.YtdcajmeeeoofgaaGreatDoor
