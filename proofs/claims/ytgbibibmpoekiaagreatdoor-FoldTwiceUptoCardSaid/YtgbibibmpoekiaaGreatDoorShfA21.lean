/-
  What the proofs lean on: CkN, RegW.
-/
import Derived.Deep.Cut
import Derived.Deep.CutRange
import Derived.Test.YtgbibibmpoekiaaGreatDoorShfA08
import Derived.Test.YtgbibibmpoekiaaGreatDoorShfA18
set_option maxRecDepth 100000
set_option maxHeartbeats 16000000
namespace Go.Proofs.YtgbibibmpoekiaaGreatDoor
section
open Go Go.RowKit
theorem number_0 (cb sb bb m:Nat) (nc nk size n:Int) (fr:Bool) (sc:Int→Bool) (ov ot:Option Addr) (lv cv lt ct:Nat) (w:World) (hn:I64 n) (hc:BoxL w cb 65 [.int .i64 2,.int .i64 nc,.int .i64 nk,.bool fr,.int .i64 size,.map (some bb)]) (hm:MapVB w sb m sc) (r:Bool) (hr:Trm.numberB nc nk fr sc 0 n lv=r) :
  Calls Tryz.prog 63 #[.pointer (some ⟨cb,0,none⟩),.agg #[.int .i64 0,.int .i64 n,.slice ov lv cv,.slice ot lt ct],.map (some sb)] w fun e w'=>e=.returned (.bool r)∧Below w.heap.size w w':=by
 have hb:Below w.heap.size w (w.alloc (.cells #[.int .i64 0,.int .i64 n,.slice ov lv cv,.slice ot lt ct] 26)):=Below.one w _
 have HB:=Lib.hid hb
 have HR:=Lib.hid hr
 have c1:=hc.cell 1 rfl
 have c2:=hc.cell 2 rfl
 have c3:=hc.cell 3 rfl
 have cl:=hc.lt
 have HM:=Lib.hid hm
 have HN:=Lib.hid hn
 clear hb hr hc hm hn
 by_cases h0:0≤n
 ·by_cases h1:n<nc
  ·obtain rfl:true=r:=by rw[←HR.out];simp[Trm.numberB,h0,h1]
   go_enter Tryz.func63,Tryz.ntmps63
   go_upto_region 3 with fail
   go_region
   all_goals (go_wp2_with fail;go_ret;first | exact ⟨rfl,HB.out⟩ | exact ⟨rfl,Below.drewN HB.out 1⟩ | exact ⟨rfl,Below.drewN HB.out _⟩)
  ·obtain rfl:false=r:=by rw[←HR.out];simp[Trm.numberB,h1]
   have f1:decide (n<nc)=false:=decide_eq_false h1
   clear h1
   go_enter Tryz.func63,Tryz.ntmps63
   go_upto_region 3 with fail
   go_region
   all_goals (go_wp2_with fail;go_ret;first | exact ⟨rfl,HB.out⟩ | exact ⟨rfl,Below.drewN HB.out 1⟩ | exact ⟨rfl,Below.drewN HB.out _⟩)
 ·obtain rfl:false=r:=by rw[←HR.out];simp[Trm.numberB,h0]
  have f0:decide (0≤n)=false:=decide_eq_false h0
  clear h0
  go_enter Tryz.func63,Tryz.ntmps63
  go_upto_region 3 with fail
  go_region
  all_goals (go_wp2_with fail;go_ret;first | exact ⟨rfl,HB.out⟩ | exact ⟨rfl,Below.drewN HB.out 1⟩ | exact ⟨rfl,Below.drewN HB.out _⟩)
theorem number_1 (cb sb bb m:Nat) (nc nk size n:Int) (fr:Bool) (sc:Int→Bool) (ov ot:Option Addr) (lv cv lt ct:Nat) (w:World) (hn:I64 n) (hc:BoxL w cb 65 [.int .i64 2,.int .i64 nc,.int .i64 nk,.bool fr,.int .i64 size,.map (some bb)]) (hm:MapVB w sb m sc) (r:Bool) (hr:Trm.numberB nc nk fr sc 1 n lv=r) :
  Calls Tryz.prog 63 #[.pointer (some ⟨cb,0,none⟩),.agg #[.int .i64 1,.int .i64 n,.slice ov lv cv,.slice ot lt ct],.map (some sb)] w fun e w'=>e=.returned (.bool r)∧Below w.heap.size w w':=by
 have hb:Below w.heap.size w (w.alloc (.cells #[.int .i64 1,.int .i64 n,.slice ov lv cv,.slice ot lt ct] 26)):=Below.one w _
 have HB:=Lib.hid hb
 have HR:=Lib.hid hr
 have c1:=hc.cell 1 rfl
 have c2:=hc.cell 2 rfl
 have c3:=hc.cell 3 rfl
 have cl:=hc.lt
 have HM:=Lib.hid hm
 have HN:=Lib.hid hn
 clear hb hr hc hm hn
 obtain rfl:sc n=r:=by rw[←HR.out];simp[Trm.numberB]
 go_enter Tryz.func63,Tryz.ntmps63
 go_wp2_with (at_lookup;refine wpList_lookVB rfl _ _ rfl sb m sc rfl (HM.out.keep HB.out) n rfl HN.out ?_)
 go_wp2_with fail
 go_ret
 exact ⟨rfl,HB.out⟩
theorem number_10 (cb sb bb m:Nat) (nc nk size n:Int) (fr:Bool) (sc:Int→Bool) (ov ot:Option Addr) (lv cv lt ct:Nat) (w:World) (hn:I64 n) (hc:BoxL w cb 65 [.int .i64 2,.int .i64 nc,.int .i64 nk,.bool fr,.int .i64 size,.map (some bb)]) (hm:MapVB w sb m sc) (r:Bool) (hr:Trm.numberB nc nk fr sc 10 n lv=r) :
  Calls Tryz.prog 63 #[.pointer (some ⟨cb,0,none⟩),.agg #[.int .i64 10,.int .i64 n,.slice ov lv cv,.slice ot lt ct],.map (some sb)] w fun e w'=>e=.returned (.bool r)∧Below w.heap.size w w':=by
 have hb:Below w.heap.size w (w.alloc (.cells #[.int .i64 10,.int .i64 n,.slice ov lv cv,.slice ot lt ct] 26)):=Below.one w _
 have HB:=Lib.hid hb
 have HR:=Lib.hid hr
 have c1:=hc.cell 1 rfl
 have c2:=hc.cell 2 rfl
 have c3:=hc.cell 3 rfl
 have cl:=hc.lt
 have HM:=Lib.hid hm
 have HN:=Lib.hid hn
 clear hb hr hc hm hn
 obtain ⟨⟨f0,f1,f2,f3,f4⟩,hf⟩:∃f,Prims.facts n=f:=⟨_,rfl⟩
 obtain ⟨b,hb⟩:∃b,Prims.has n=b:=⟨_,rfl⟩
 have HC:=Lib.hid (fun W=>facts_to n f0 f1 f2 f3 f4 b hf hb HN.out.1 HN.out.2 W)
 obtain rfl:b=r:=by rw[←HR.out,←hb,Prims.has,Bool.eq_iff_iff];simp[Trm.numberB];omega
 clear hf hb
 go_enter Tryz.func63,Tryz.ntmps63
 go_wp2_with fail
 refine (HC.out _).mono ?_
 rintro e w1 ⟨rfl,hb1⟩
 have HB1:=Lib.hid (Below.next HB.out hb1)
 clear hb1 HC
 go_wp2_with fail
 go_ret
 exact ⟨rfl,HB1.out.alloc (by have:=HB1.out.size;omega) _⟩
theorem number_11 (cb sb bb m:Nat) (nc nk size n:Int) (fr:Bool) (sc:Int→Bool) (ov ot:Option Addr) (lv cv lt ct:Nat) (w:World) (hn:I64 n) (hc:BoxL w cb 65 [.int .i64 2,.int .i64 nc,.int .i64 nk,.bool fr,.int .i64 size,.map (some bb)]) (hm:MapVB w sb m sc) (r:Bool) (hr:Trm.numberB nc nk fr sc 11 n lv=r) :
  Calls Tryz.prog 63 #[.pointer (some ⟨cb,0,none⟩),.agg #[.int .i64 11,.int .i64 n,.slice ov lv cv,.slice ot lt ct],.map (some sb)] w fun e w'=>e=.returned (.bool r)∧Below w.heap.size w w':=by
 have hb:Below w.heap.size w (w.alloc (.cells #[.int .i64 11,.int .i64 n,.slice ov lv cv,.slice ot lt ct] 26)):=Below.one w _
 have HB:=Lib.hid hb
 have HR:=Lib.hid hr
 have c1:=hc.cell 1 rfl
 have c2:=hc.cell 2 rfl
 have c3:=hc.cell 3 rfl
 have cl:=hc.lt
 have HM:=Lib.hid hm
 have HN:=Lib.hid hn
 clear hb hr hc hm hn
 obtain ⟨⟨f0,f1,f2,f3,f4⟩,hf⟩:∃f,Prims.facts n=f:=⟨_,rfl⟩
 obtain ⟨b,hb⟩:∃b,Prims.has n=b:=⟨_,rfl⟩
 have HC:=Lib.hid (fun W=>facts_to n f0 f1 f2 f3 f4 b hf hb HN.out.1 HN.out.2 W)
 obtain rfl:b=r:=by rw[←HR.out,←hb,Prims.has,Bool.eq_iff_iff];simp[Trm.numberB];omega
 clear hf hb
 go_enter Tryz.func63,Tryz.ntmps63
 go_wp2_with fail
 refine (HC.out _).mono ?_
 rintro e w1 ⟨rfl,hb1⟩
 have HB1:=Lib.hid (Below.next HB.out hb1)
 clear hb1 HC
 go_wp2_with fail
 go_ret
 exact ⟨rfl,HB1.out.alloc (by have:=HB1.out.size;omega) _⟩
theorem number_3 (cb sb bb m:Nat) (nc nk size n:Int) (fr:Bool) (sc:Int→Bool) (ov ot:Option Addr) (lv cv lt ct:Nat) (w:World) (hn:I64 n) (hc:BoxL w cb 65 [.int .i64 2,.int .i64 nc,.int .i64 nk,.bool fr,.int .i64 size,.map (some bb)]) (hm:MapVB w sb m sc) (r:Bool) (hr:Trm.numberB nc nk fr sc 3 n lv=r) :
  Calls Tryz.prog 63 #[.pointer (some ⟨cb,0,none⟩),.agg #[.int .i64 3,.int .i64 n,.slice ov lv cv,.slice ot lt ct],.map (some sb)] w fun e w'=>e=.returned (.bool r)∧Below w.heap.size w w':=by
 have hb:Below w.heap.size w (w.alloc (.cells #[.int .i64 3,.int .i64 n,.slice ov lv cv,.slice ot lt ct] 26)):=Below.one w _
 have HB:=Lib.hid hb
 have HR:=Lib.hid hr
 have c1:=hc.cell 1 rfl
 have c2:=hc.cell 2 rfl
 have c3:=hc.cell 3 rfl
 have cl:=hc.lt
 have HM:=Lib.hid hm
 have HN:=Lib.hid hn
 clear hb hr hc hm hn
 by_cases h0:n=0
 ·subst h0
  obtain rfl:true=r:=by rw[←HR.out];simp[Trm.numberB]
  go_enter Tryz.func63,Tryz.ntmps63
  go_wp2_with fail
  go_ret
  exact ⟨rfl,HB.out⟩
 ·obtain rfl:false=r:=by rw[←HR.out];simp[Trm.numberB,h0]
  have f0:(n==0)=false:=by simpa using h0
  clear h0
  go_enter Tryz.func63,Tryz.ntmps63
  go_wp2_with fail
  go_ret
  exact ⟨rfl,HB.out⟩
theorem number_5 (cb sb bb m:Nat) (nc nk size n:Int) (fr:Bool) (sc:Int→Bool) (ov ot:Option Addr) (lv cv lt ct:Nat) (w:World) (hn:I64 n) (hc:BoxL w cb 65 [.int .i64 2,.int .i64 nc,.int .i64 nk,.bool fr,.int .i64 size,.map (some bb)]) (hm:MapVB w sb m sc) (r:Bool) (hr:Trm.numberB nc nk fr sc 5 n lv=r) :
  Calls Tryz.prog 63 #[.pointer (some ⟨cb,0,none⟩),.agg #[.int .i64 5,.int .i64 n,.slice ov lv cv,.slice ot lt ct],.map (some sb)] w fun e w'=>e=.returned (.bool r)∧Below w.heap.size w w':=by
 have hb:Below w.heap.size w (w.alloc (.cells #[.int .i64 5,.int .i64 n,.slice ov lv cv,.slice ot lt ct] 26)):=Below.one w _
 have HB:=Lib.hid hb
 have HR:=Lib.hid hr
 have c1:=hc.cell 1 rfl
 have c2:=hc.cell 2 rfl
 have c3:=hc.cell 3 rfl
 have cl:=hc.lt
 have HM:=Lib.hid hm
 have HN:=Lib.hid hn
 clear hb hr hc hm hn
 by_cases h0:n=0
 ·subst h0
  obtain rfl:true=r:=by rw[←HR.out];simp[Trm.numberB]
  go_enter Tryz.func63,Tryz.ntmps63
  go_wp2_with fail
  go_ret
  exact ⟨rfl,HB.out⟩
 ·obtain rfl:false=r:=by rw[←HR.out];simp[Trm.numberB,h0]
  have f0:(n==0)=false:=by simpa using h0
  clear h0
  go_enter Tryz.func63,Tryz.ntmps63
  go_wp2_with fail
  go_ret
  exact ⟨rfl,HB.out⟩
theorem number_6 (cb sb bb m:Nat) (nc nk size n:Int) (fr:Bool) (sc:Int→Bool) (ov ot:Option Addr) (lv cv lt ct:Nat) (w:World) (hn:I64 n) (hc:BoxL w cb 65 [.int .i64 2,.int .i64 nc,.int .i64 nk,.bool fr,.int .i64 size,.map (some bb)]) (hm:MapVB w sb m sc) (r:Bool) (hr:Trm.numberB nc nk fr sc 6 n lv=r) :
  Calls Tryz.prog 63 #[.pointer (some ⟨cb,0,none⟩),.agg #[.int .i64 6,.int .i64 n,.slice ov lv cv,.slice ot lt ct],.map (some sb)] w fun e w'=>e=.returned (.bool r)∧Below w.heap.size w w':=by
 have hb:Below w.heap.size w (w.alloc (.cells #[.int .i64 6,.int .i64 n,.slice ov lv cv,.slice ot lt ct] 26)):=Below.one w _
 have HB:=Lib.hid hb
 have HR:=Lib.hid hr
 have c1:=hc.cell 1 rfl
 have c2:=hc.cell 2 rfl
 have c3:=hc.cell 3 rfl
 have cl:=hc.lt
 have HM:=Lib.hid hm
 have HN:=Lib.hid hn
 clear hb hr hc hm hn
 by_cases h0:n=0
 ·subst h0
  obtain rfl:true=r:=by rw[←HR.out];simp[Trm.numberB]
  go_enter Tryz.func63,Tryz.ntmps63
  go_wp2_with fail
  go_ret
  exact ⟨rfl,HB.out⟩
 ·obtain rfl:false=r:=by rw[←HR.out];simp[Trm.numberB,h0]
  have f0:(n==0)=false:=by simpa using h0
  clear h0
  go_enter Tryz.func63,Tryz.ntmps63
  go_wp2_with fail
  go_ret
  exact ⟨rfl,HB.out⟩
theorem number_8 (cb sb bb m:Nat) (nc nk size n:Int) (fr:Bool) (sc:Int→Bool) (ov ot:Option Addr) (lv cv lt ct:Nat) (w:World) (hn:I64 n) (hc:BoxL w cb 65 [.int .i64 2,.int .i64 nc,.int .i64 nk,.bool fr,.int .i64 size,.map (some bb)]) (hm:MapVB w sb m sc) (r:Bool) (hr:Trm.numberB nc nk fr sc 8 n lv=r) :
  Calls Tryz.prog 63 #[.pointer (some ⟨cb,0,none⟩),.agg #[.int .i64 8,.int .i64 n,.slice ov lv cv,.slice ot lt ct],.map (some sb)] w fun e w'=>e=.returned (.bool r)∧Below w.heap.size w w':=by
 have hb:Below w.heap.size w (w.alloc (.cells #[.int .i64 8,.int .i64 n,.slice ov lv cv,.slice ot lt ct] 26)):=Below.one w _
 have HB:=Lib.hid hb
 have HR:=Lib.hid hr
 have c1:=hc.cell 1 rfl
 have c2:=hc.cell 2 rfl
 have c3:=hc.cell 3 rfl
 have cl:=hc.lt
 have HM:=Lib.hid hm
 have HN:=Lib.hid hn
 clear hb hr hc hm hn
 by_cases h0:n=0
 ·subst h0
  obtain rfl:true=r:=by rw[←HR.out];simp[Trm.numberB]
  go_enter Tryz.func63,Tryz.ntmps63
  go_wp2_with fail
  go_ret
  exact ⟨rfl,HB.out⟩
 ·obtain rfl:false=r:=by rw[←HR.out];simp[Trm.numberB,h0]
  have f0:(n==0)=false:=by simpa using h0
  clear h0
  go_enter Tryz.func63,Tryz.ntmps63
  go_wp2_with fail
  go_ret
  exact ⟨rfl,HB.out⟩
theorem number_9 (cb sb bb m:Nat) (nc nk size n:Int) (fr:Bool) (sc:Int→Bool) (ov ot:Option Addr) (lv cv lt ct:Nat) (w:World) (hn:I64 n) (hc:BoxL w cb 65 [.int .i64 2,.int .i64 nc,.int .i64 nk,.bool fr,.int .i64 size,.map (some bb)]) (hm:MapVB w sb m sc) (r:Bool) (hr:Trm.numberB nc nk fr sc 9 n lv=r) :
  Calls Tryz.prog 63 #[.pointer (some ⟨cb,0,none⟩),.agg #[.int .i64 9,.int .i64 n,.slice ov lv cv,.slice ot lt ct],.map (some sb)] w fun e w'=>e=.returned (.bool r)∧Below w.heap.size w w':=by
 have hb:Below w.heap.size w (w.alloc (.cells #[.int .i64 9,.int .i64 n,.slice ov lv cv,.slice ot lt ct] 26)):=Below.one w _
 have HB:=Lib.hid hb
 have HR:=Lib.hid hr
 have c1:=hc.cell 1 rfl
 have c2:=hc.cell 2 rfl
 have c3:=hc.cell 3 rfl
 have cl:=hc.lt
 have HM:=Lib.hid hm
 have HN:=Lib.hid hn
 clear hb hr hc hm hn
 by_cases h0:n=0
 ·subst h0
  obtain rfl:true=r:=by rw[←HR.out];simp[Trm.numberB]
  go_enter Tryz.func63,Tryz.ntmps63
  go_wp2_with fail
  go_ret
  exact ⟨rfl,HB.out⟩
 ·obtain rfl:false=r:=by rw[←HR.out];simp[Trm.numberB,h0]
  have f0:(n==0)=false:=by simpa using h0
  clear h0
  go_enter Tryz.func63,Tryz.ntmps63
  go_wp2_with fail
  go_ret
  exact ⟨rfl,HB.out⟩
theorem number_12 (cb sb bb m:Nat) (nc nk size n:Int) (fr:Bool) (sc:Int→Bool) (ov ot:Option Addr) (lv cv lt ct:Nat) (w:World) (hn:I64 n) (hc:BoxL w cb 65 [.int .i64 2,.int .i64 nc,.int .i64 nk,.bool fr,.int .i64 size,.map (some bb)]) (hm:MapVB w sb m sc) (r:Bool) (hr:Trm.numberB nc nk fr sc 12 n lv=r) :
  Calls Tryz.prog 63 #[.pointer (some ⟨cb,0,none⟩),.agg #[.int .i64 12,.int .i64 n,.slice ov lv cv,.slice ot lt ct],.map (some sb)] w fun e w'=>e=.returned (.bool r)∧Below w.heap.size w w':=by
 have hb:Below w.heap.size w (w.alloc (.cells #[.int .i64 12,.int .i64 n,.slice ov lv cv,.slice ot lt ct] 26)):=Below.one w _
 have HB:=Lib.hid hb
 have HR:=Lib.hid hr
 have c1:=hc.cell 1 rfl
 have c2:=hc.cell 2 rfl
 have c3:=hc.cell 3 rfl
 have cl:=hc.lt
 have HM:=Lib.hid hm
 have HN:=Lib.hid hn
 clear hb hr hc hm hn
 by_cases h0:n=0
 ·subst h0
  obtain rfl:true=r:=by rw[←HR.out];simp[Trm.numberB]
  go_enter Tryz.func63,Tryz.ntmps63
  go_wp2_with fail
  go_ret
  exact ⟨rfl,HB.out⟩
 ·obtain rfl:false=r:=by rw[←HR.out];simp[Trm.numberB,h0]
  have f0:(n==0)=false:=by simpa using h0
  clear h0
  go_enter Tryz.func63,Tryz.ntmps63
  go_wp2_with fail
  go_ret
  exact ⟨rfl,HB.out⟩
theorem number_13 (cb sb bb m:Nat) (nc nk size n:Int) (fr:Bool) (sc:Int→Bool) (ov ot:Option Addr) (lv cv lt ct:Nat) (w:World) (hn:I64 n) (hc:BoxL w cb 65 [.int .i64 2,.int .i64 nc,.int .i64 nk,.bool fr,.int .i64 size,.map (some bb)]) (hm:MapVB w sb m sc) (r:Bool) (hr:Trm.numberB nc nk fr sc 13 n lv=r) :
  Calls Tryz.prog 63 #[.pointer (some ⟨cb,0,none⟩),.agg #[.int .i64 13,.int .i64 n,.slice ov lv cv,.slice ot lt ct],.map (some sb)] w fun e w'=>e=.returned (.bool r)∧Below w.heap.size w w':=by
 have hb:Below w.heap.size w (w.alloc (.cells #[.int .i64 13,.int .i64 n,.slice ov lv cv,.slice ot lt ct] 26)):=Below.one w _
 have HB:=Lib.hid hb
 have HR:=Lib.hid hr
 have c1:=hc.cell 1 rfl
 have c2:=hc.cell 2 rfl
 have c3:=hc.cell 3 rfl
 have cl:=hc.lt
 have HM:=Lib.hid hm
 have HN:=Lib.hid hn
 clear hb hr hc hm hn
 by_cases h0:n=0
 ·subst h0
  obtain rfl:true=r:=by rw[←HR.out];simp[Trm.numberB]
  go_enter Tryz.func63,Tryz.ntmps63
  go_wp2_with fail
  go_ret
  exact ⟨rfl,HB.out⟩
 ·obtain rfl:false=r:=by rw[←HR.out];simp[Trm.numberB,h0]
  have f0:(n==0)=false:=by simpa using h0
  clear h0
  go_enter Tryz.func63,Tryz.ntmps63
  go_wp2_with fail
  go_ret
  exact ⟨rfl,HB.out⟩
theorem number_15 (cb sb bb m:Nat) (nc nk size n:Int) (fr:Bool) (sc:Int→Bool) (ov ot:Option Addr) (lv cv lt ct:Nat) (w:World) (hn:I64 n) (hc:BoxL w cb 65 [.int .i64 2,.int .i64 nc,.int .i64 nk,.bool fr,.int .i64 size,.map (some bb)]) (hm:MapVB w sb m sc) (r:Bool) (hr:Trm.numberB nc nk fr sc 15 n lv=r) :
  Calls Tryz.prog 63 #[.pointer (some ⟨cb,0,none⟩),.agg #[.int .i64 15,.int .i64 n,.slice ov lv cv,.slice ot lt ct],.map (some sb)] w fun e w'=>e=.returned (.bool r)∧Below w.heap.size w w':=by
 have hb:Below w.heap.size w (w.alloc (.cells #[.int .i64 15,.int .i64 n,.slice ov lv cv,.slice ot lt ct] 26)):=Below.one w _
 have HB:=Lib.hid hb
 have HR:=Lib.hid hr
 have c1:=hc.cell 1 rfl
 have c2:=hc.cell 2 rfl
 have c3:=hc.cell 3 rfl
 have cl:=hc.lt
 have HM:=Lib.hid hm
 have HN:=Lib.hid hn
 clear hb hr hc hm hn
 by_cases h0:n=0
 ·subst h0
  obtain rfl:true=r:=by rw[←HR.out];simp[Trm.numberB]
  go_enter Tryz.func63,Tryz.ntmps63
  go_wp2_with fail
  go_ret
  exact ⟨rfl,HB.out⟩
 ·obtain rfl:false=r:=by rw[←HR.out];simp[Trm.numberB,h0]
  have f0:(n==0)=false:=by simpa using h0
  clear h0
  go_enter Tryz.func63,Tryz.ntmps63
  go_wp2_with fail
  go_ret
  exact ⟨rfl,HB.out⟩
theorem number_16 (cb sb bb m:Nat) (nc nk size n:Int) (fr:Bool) (sc:Int→Bool) (ov ot:Option Addr) (lv cv lt ct:Nat) (w:World) (hn:I64 n) (hc:BoxL w cb 65 [.int .i64 2,.int .i64 nc,.int .i64 nk,.bool fr,.int .i64 size,.map (some bb)]) (hm:MapVB w sb m sc) (r:Bool) (hr:Trm.numberB nc nk fr sc 16 n lv=r) :
  Calls Tryz.prog 63 #[.pointer (some ⟨cb,0,none⟩),.agg #[.int .i64 16,.int .i64 n,.slice ov lv cv,.slice ot lt ct],.map (some sb)] w fun e w'=>e=.returned (.bool r)∧Below w.heap.size w w':=by
 have hb:Below w.heap.size w (w.alloc (.cells #[.int .i64 16,.int .i64 n,.slice ov lv cv,.slice ot lt ct] 26)):=Below.one w _
 have HB:=Lib.hid hb
 have HR:=Lib.hid hr
 have c1:=hc.cell 1 rfl
 have c2:=hc.cell 2 rfl
 have c3:=hc.cell 3 rfl
 have cl:=hc.lt
 have HM:=Lib.hid hm
 have HN:=Lib.hid hn
 clear hb hr hc hm hn
 by_cases h0:n=0
 ·subst h0
  obtain rfl:true=r:=by rw[←HR.out];simp[Trm.numberB]
  go_enter Tryz.func63,Tryz.ntmps63
  go_wp2_with fail
  go_ret
  exact ⟨rfl,HB.out⟩
 ·obtain rfl:false=r:=by rw[←HR.out];simp[Trm.numberB,h0]
  have f0:(n==0)=false:=by simpa using h0
  clear h0
  go_enter Tryz.func63,Tryz.ntmps63
  go_wp2_with fail
  go_ret
  exact ⟨rfl,HB.out⟩
theorem number_17 (cb sb bb m:Nat) (nc nk size n:Int) (fr:Bool) (sc:Int→Bool) (ov ot:Option Addr) (lv cv lt ct:Nat) (w:World) (hn:I64 n) (hc:BoxL w cb 65 [.int .i64 2,.int .i64 nc,.int .i64 nk,.bool fr,.int .i64 size,.map (some bb)]) (hm:MapVB w sb m sc) (r:Bool) (hr:Trm.numberB nc nk fr sc 17 n lv=r) :
  Calls Tryz.prog 63 #[.pointer (some ⟨cb,0,none⟩),.agg #[.int .i64 17,.int .i64 n,.slice ov lv cv,.slice ot lt ct],.map (some sb)] w fun e w'=>e=.returned (.bool r)∧Below w.heap.size w w':=by
 have hb:Below w.heap.size w (w.alloc (.cells #[.int .i64 17,.int .i64 n,.slice ov lv cv,.slice ot lt ct] 26)):=Below.one w _
 have HB:=Lib.hid hb
 have HR:=Lib.hid hr
 have c1:=hc.cell 1 rfl
 have c2:=hc.cell 2 rfl
 have c3:=hc.cell 3 rfl
 have cl:=hc.lt
 have HM:=Lib.hid hm
 have HN:=Lib.hid hn
 clear hb hr hc hm hn
 by_cases h0:n=0
 ·subst h0
  obtain rfl:true=r:=by rw[←HR.out];simp[Trm.numberB]
  go_enter Tryz.func63,Tryz.ntmps63
  go_wp2_with fail
  go_ret
  exact ⟨rfl,HB.out⟩
 ·obtain rfl:false=r:=by rw[←HR.out];simp[Trm.numberB,h0]
  have f0:(n==0)=false:=by simpa using h0
  clear h0
  go_enter Tryz.func63,Tryz.ntmps63
  go_wp2_with fail
  go_ret
  exact ⟨rfl,HB.out⟩
theorem number_18 (cb sb bb m:Nat) (nc nk size n:Int) (fr:Bool) (sc:Int→Bool) (ov ot:Option Addr) (lv cv lt ct:Nat) (w:World) (hn:I64 n) (hc:BoxL w cb 65 [.int .i64 2,.int .i64 nc,.int .i64 nk,.bool fr,.int .i64 size,.map (some bb)]) (hm:MapVB w sb m sc) (r:Bool) (hr:Trm.numberB nc nk fr sc 18 n lv=r) :
  Calls Tryz.prog 63 #[.pointer (some ⟨cb,0,none⟩),.agg #[.int .i64 18,.int .i64 n,.slice ov lv cv,.slice ot lt ct],.map (some sb)] w fun e w'=>e=.returned (.bool r)∧Below w.heap.size w w':=by
 have hb:Below w.heap.size w (w.alloc (.cells #[.int .i64 18,.int .i64 n,.slice ov lv cv,.slice ot lt ct] 26)):=Below.one w _
 have HB:=Lib.hid hb
 have HR:=Lib.hid hr
 have c1:=hc.cell 1 rfl
 have c2:=hc.cell 2 rfl
 have c3:=hc.cell 3 rfl
 have cl:=hc.lt
 have HM:=Lib.hid hm
 have HN:=Lib.hid hn
 clear hb hr hc hm hn
 by_cases h0:n=0
 ·subst h0
  obtain rfl:true=r:=by rw[←HR.out];simp[Trm.numberB]
  go_enter Tryz.func63,Tryz.ntmps63
  go_wp2_with fail
  go_ret
  exact ⟨rfl,HB.out⟩
 ·obtain rfl:false=r:=by rw[←HR.out];simp[Trm.numberB,h0]
  have f0:(n==0)=false:=by simpa using h0
  clear h0
  go_enter Tryz.func63,Tryz.ntmps63
  go_wp2_with fail
  go_ret
  exact ⟨rfl,HB.out⟩
theorem number_4 (cb sb bb m:Nat) (nc nk size n:Int) (fr:Bool) (sc:Int→Bool) (ov ot:Option Addr) (lv cv lt ct:Nat) (w:World) (hn:I64 n) (hc:BoxL w cb 65 [.int .i64 2,.int .i64 nc,.int .i64 nk,.bool fr,.int .i64 size,.map (some bb)]) (hm:MapVB w sb m sc) (r:Bool) (hr:Trm.numberB nc nk fr sc 4 n lv=r) :
  Calls Tryz.prog 63 #[.pointer (some ⟨cb,0,none⟩),.agg #[.int .i64 4,.int .i64 n,.slice ov lv cv,.slice ot lt ct],.map (some sb)] w fun e w'=>e=.returned (.bool r)∧Below w.heap.size w w':=by
 have hb:Below w.heap.size w (w.alloc (.cells #[.int .i64 4,.int .i64 n,.slice ov lv cv,.slice ot lt ct] 26)):=Below.one w _
 have HB:=Lib.hid hb
 have HR:=Lib.hid hr
 have c1:=hc.cell 1 rfl
 have c2:=hc.cell 2 rfl
 have c3:=hc.cell 3 rfl
 have cl:=hc.lt
 have HM:=Lib.hid hm
 have HN:=Lib.hid hn
 clear hb hr hc hm hn
 by_cases h0:n=0
 ·subst h0
  obtain rfl:true=r:=by rw[←HR.out];simp[Trm.numberB]
  go_enter Tryz.func63,Tryz.ntmps63
  go_wp2_with fail
  go_ret
  exact ⟨rfl,HB.out⟩
 ·have f0:(n==0)=false:=by simpa using h0
  by_cases h1:n=1
  ·subst h1
   by_cases hv:0<lv
   ·obtain rfl:true=r:=by rw[←HR.out];simp[Trm.numberB,hv]
    have f1:decide (0<(lv:Int))=true:=decide_eq_true (by omega)
    go_enter Tryz.func63,Tryz.ntmps63
    go_wp2_with fail
    go_ret
    exact ⟨rfl,HB.out⟩
   ·obtain rfl:false=r:=by rw[←HR.out];simp[Trm.numberB,hv]
    have f1:decide (0<(lv:Int))=false:=decide_eq_false (by omega)
    go_enter Tryz.func63,Tryz.ntmps63
    go_wp2_with fail
    go_ret
    exact ⟨rfl,HB.out⟩
  ·obtain rfl:false=r:=by rw[←HR.out];simp[Trm.numberB,h0,h1]
   have f1:(n==1)=false:=by simpa using h1
   clear h0 h1
   go_enter Tryz.func63,Tryz.ntmps63
   go_wp2_with fail
   go_ret
   exact ⟨rfl,HB.out⟩
end
section
open Go Go.RowKit
def rankB (ops:Array Oper) (rk:List Nat):Bool:=(List.range ops.size).all fun i=>((ops[i]?).map (·.after.all fun e=>!Region.binds .any e || (decide (e.on<ops.size)&&decide (rk.getD e.on 0<rk.getD i 0)))).getD true
def wholeB (ops:Array Oper) (rk:List Nat) (m:Nat) (gs:List Nat):Bool:=rankB ops rk&&(slotsB ops ops.size m&&guardsB .any ops ops.size m gs)
theorem ready_rank {ops:Array Oper} {rk:List Nat} {listed:Array Bool} (hb:rankB ops rk=true) (hs:listed.size=ops.size):∀(k i:Nat),rk.getD i 0=k→i<ops.size→listed.getD i true=false→Region.ready .any ops listed≠[]:=by
 intro k
 induction k using Nat.strongRecOn with
 | _ k ih=>
  intro i hk hi hu
  by_cases hr:i∈Region.ready .any ops listed
  ·intro h0;rw[h0] at hr;cases hr
  ·obtain ⟨o,ho⟩:∃o,ops[i]?=some o:=⟨_,Array.getElem?_eq_getElem hi⟩
   have:∃e∈o.after,Region.binds .any e=true∧listed.getD e.on false=false:=by
    apply Classical.byContradiction
    intro hn
    exact hr (mem_ready.2 ⟨hu,o,ho,fun e he hb'=>by
     cases hl:listed.getD e.on false with
     | true=>rfl
     | false=>exact absurd ⟨e,he,hb',hl⟩ hn⟩)
   obtain ⟨e,he,hbe,hl⟩:=this
   have hlt:e.on<ops.size∧rk.getD e.on 0<rk.getD i 0:=by
    have:=List.all_eq_true.1 hb i (List.mem_range.2 hi)
    rw[ho] at this
    simp only[Option.map_some,Option.getD_some] at this
    have:=Array.all_eq_true_iff_forall_mem.1 this e he
    simpa[hbe] using this
   exact ih _ (by omega) e.on rfl hlt.1 (getD_in (by rw[hs];exact hlt.1) hl)
theorem whole_inv {P:Program} {ops:Array Oper} {rk:List Nat} {I:Array Bool→Act→World→Prop} {Q:Exit→Act→World→Prop} (hb:rankB ops rk=true) (hsz:∀listed a w,I listed a w→listed.size=ops.size)
  (hstep:∀listed a w i,I listed a w→i∈Region.ready .any ops listed→wpOp P ops Q i (fun a' w'=>I (listed.setIfInBounds i true) a' w') a w)
  (hend:∀listed a w,I listed a w→(∀i,i<ops.size→listed.getD i true=true)→Q .normal a w) :
  ∀(f:Nat) (listed:Array Bool) (a:Act) (w:World),((List.range ops.size).filter fun i=>!listed.getD i true).length=f→I listed a w→wpAny P .any ops Q f listed a w
 | 0,listed,a,w,hf,h=>by
  have hall:∀i,i<ops.size→listed.getD i true=true:=fun i hi=>by
   have h0:=List.eq_nil_of_length_eq_zero hf
   rw[List.filter_eq_nil_iff] at h0
   have:=h0 i (List.mem_range.2 hi)
   simpa using this
  refine ⟨List.eq_nil_iff_forall_not_mem.2 fun i hi=>?_,hend listed a w h hall⟩
  obtain ⟨hu,o,ho,_⟩:=mem_ready.1 hi
  have:=hall i (Array.getElem?_eq_some_iff.1 ho).1
  rw[this] at hu;cases hu
 | f+1,listed,a,w,hf,h=>by
  have hex:∃i,i<ops.size∧listed.getD i true=false:=by
   obtain ⟨i,hi⟩:=List.exists_mem_of_length_pos (by rw[hf];omega)
   rw[List.mem_filter,List.mem_range] at hi
   exact ⟨i,hi.1,by simpa using hi.2⟩
  refine ⟨fun h0=>?_,fun i hi=>?_⟩
  ·obtain ⟨i,h1,h2⟩:=hex
   exact absurd h0 (ready_rank hb (hsz _ _ _ h) _ i rfl h1 h2)
  ·obtain ⟨hu,o,ho,_⟩:=mem_ready.1 hi
   have hio:=(Array.getElem?_eq_some_iff.1 ho).1
   refine wpOp_mono (fun a' w' h'=>whole_inv hb hsz hstep hend f _ a' w' ?_ h') (hstep listed a w i h hi)
   have hls:=hsz _ _ _ h
   have e:((List.range ops.size).filter fun j=>!(listed.setIfInBounds i true).getD j true)=((List.range ops.size).filter fun j=>!listed.getD j true).erase i:=by
    rw[List.Nodup.erase_eq_filter (List.nodup_range.sublist List.filter_sublist),List.filter_filter]
    apply List.filter_congr
    intro j hj
    have hj:=List.mem_range.1 hj
    by_cases e:i=j
    ·subst e
     simp[hls,hio]
    ·rw[getD_set_ne true e]
     have:(j != i)=true:=by simp;exact fun h=>e h.symm
     rw[this,Bool.true_and]
   rw[e,List.length_erase_of_mem (List.mem_filter.2 ⟨List.mem_range.2 hio,by simp[hu]⟩),hf]
   omega
theorem wp_region_stW {P:Program} {id:Nat} {Q:Exit→Act→World→Prop} {a0:Act} {w:World} {l:List Oper} (rk gs:List Nat) (Ph:Array Bool→Act→World→Prop) (R:Array Bool→Nat→Value→World→Prop) (hm:P.follows .mixedOrders=true) (hB:wholeB l.toArray rk a0.tmps.size gs=true)
  (hG:∀g∈gs,∀listed v w,R listed g v w→v=.bool true) (h0:Ph (Array.replicate l.toArray.size false) a0 w.drew)
  (hops:∀i o,i<l.toArray.size→l.toArray[i]?=some o→∀(listed:Array Bool) (a:Act) (w1:World),i<listed.size→(∀e∈o.after,Region.binds .any e=true→listed.getD e.on false=true)→Ph listed a w1→listed.getD i false=false→DepsF l.toArray l.toArray.size (R listed) o a w1→Rest l.toArray l.toArray.size a0 a→a.tmps.size=a0.tmps.size→o.wp P a w1 (StL Ph R listed i o a w1) Q)
  (hend:∀(listed:Array Bool) a w1,a.defers=a0.defers→a.tmps.size=a0.tmps.size→(∀i,i<l.toArray.size→listed.getD i false=true)→Ph listed a w1→(∀i o d,l.toArray[i]?=some o→o.dst=some d→R listed i (a.tmps.getD d undef) w1)→Rest l.toArray l.toArray.size a0 a→wpList P l.toArray Q [] a w1) :
  (Code.region id l.toArray true).wp P Q a0 w:=by
 simp only[wholeB,Bool.and_eq_true] at hB
 obtain ⟨hrk,hsl,hgd⟩:=hB
 refine wp_region_any hm ?_
 have hcount:((List.range l.toArray.size).filter fun i=>!(Array.replicate l.toArray.size false).getD i true).length=l.toArray.size:=by
  rw[List.filter_eq_self.2]
  ·simp
  ·intro i hi
   have h':i<l.length:=by simpa using hi
   simp[h']
 have:=whole_inv (P:=P) (Q:=Q) (I:=fun listed a w=>listed.size=l.toArray.size∧a.defers=a0.defers∧a.tmps.size=a0.tmps.size∧Rest l.toArray l.toArray.size a0 a∧Ph listed a w∧∀i o d,l.toArray[i]?=some o→listed.getD i false=true→o.dst=some d→R listed i (a.tmps.getD d undef) w) hrk (fun _ _ _ h=>h.1) ?_ ?_ _ _ a0 w.drew hcount
  ⟨by simp,rfl,rfl,fun _ _=>rfl,h0,fun i o d _ h=>by rw[getD_replicate_false] at h;cases h⟩
 ·exact this
 ·rintro listed a w1 i ⟨hls,hdf,hsz,hrest,hph,hval⟩ hr
  obtain ⟨hun,o,ho,hdeps⟩:=mem_ready.1 hr
  have hi:=(Array.getElem?_eq_some_iff.1 ho).1
  have hdep:DepsF l.toArray l.toArray.size (R listed) o a w1:=fun j oj d hj hoj ⟨e,he,hb,hon⟩ hd=>hval j oj d hoj (by have:=hdeps e he hb;rwa[hon] at this) hd
  unfold wpOp
  simp only[ho]
  have hg:Region.wanted o (yielded l.toArray a.tmps)=true:=wanted_of (R:=R listed) (w:=w1) hgd (fun g hg v w h=>hG g hg listed v w h) hi ho (by rw[hsz];exact Nat.le_refl _) hdep
  rw[if_pos hg]
  left
  have hlt:i<listed.size:=by rw[hls];exact hi
  have hun':listed.getD i false=false:=by simpa[hlt] using hun
  refine Oper.wp_mono ?_ (hops i o hi ho listed a w1 hlt hdeps hph hun' hdep hrest hsz)
  rintro a' w' ⟨v,rfl,hv,hx,hkeep⟩
  refine ⟨by simpa using hls,?_,?_,?_,hx,fun j oj d hoj hl hd=>?_⟩
  ·cases o.dst<;>exact hdf
  ·cases hdst:o.dst with
   | none=>exact hsz
   | some d=>simpa[Act.put] using hsz
  ·intro t ht
   cases hdst:o.dst with
   | none=>exact hrest t ht
   | some d'=>
    have hd':=(slotsF_at hsl hi hi ho ho hdst hdst).1
    rw[put_getD (by rw[hsz];exact hd'),if_neg ?_]
    ·exact hrest t ht
    ·rintro rfl;exact ht i o hi ho hdst
  ·have hj:=(Array.getElem?_eq_some_iff.1 hoj).1
   by_cases e:i=j
   ·subst e
    obtain rfl:oj=o:=Option.some.inj (hoj.symm.trans ho)
    have hd':=(slotsF_at hsl hi hi ho ho hd hd).1
    rw[hd,put_getD (by rw[hsz];exact hd'),if_pos rfl]
    exact hv
   ·rw[getD_set_ne false e] at hl
    have hold:=hval j oj d hoj hl hd
    have hsame:(a.put o.dst v).tmps.getD d undef=a.tmps.getD d undef:=by
     cases hdo:o.dst with
     | none=>rfl
     | some d'=>
      obtain ⟨hd',hne⟩:=slotsF_at hsl hi hj ho hoj hdo hd
      rw[put_getD (by rw[hsz];exact hd'),if_neg (hne.resolve_left e)]
    rw[hsame]
    exact hkeep j _ (fun h=>e h.symm) hl hold
 ·rintro listed a w1 ⟨hls,hdf,hsz,hrest,hph,hval⟩ hall
  have hall':∀i,i<l.toArray.size→listed.getD i false=true:=fun i hi=>by
   have:=hall i hi
   have hlt:i<listed.size:=by rw[hls];exact hi
   simpa[hlt] using this
  exact hend listed a w1 hdf hsz hall' hph (fun i o d ho hd=>hval i o d ho (hall' i (Array.getElem?_eq_some_iff.1 ho).1) hd) hrest
theorem wp_skipF {P:Program} {o:Oper} {a:Act} {w w':World} {Q:Exit→Act→World→Prop} {K:Act→World→Prop} (h:(execOp a.eval o).run P w=.ok .skip w') (hK:K (a.put o.dst undef) w'):o.wp P a w K Q:=by
 unfold Oper.wp
 rw[h]
 exact hK
end
end Go.Proofs.YtgbibibmpoekiaaGreatDoor
