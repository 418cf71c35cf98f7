/-
  What the proofs lean on: CkN.
-/
import Derived.Deep.Cut
import Derived.Deep.CutRange
import Derived.Test.YtgbibibmpoekiaaGreatDoorFolA09
import Derived.Test.YtgbibibmpoekiaaGreatDoorFolA18
set_option maxRecDepth 100000
set_option maxHeartbeats 16000000
namespace Go.Proofs.YtgbibibmpoekiaaGreatDoor
section
open Go Go.RowKit
theorem number_0 (cb sb bb m : Nat) (nc nk size n : Int) (fr : Bool) (sc : Int → Bool) (ov ot : Option Addr) (lv cv lt ct : Nat) (w : World) (hn : I64 n) (hc : BoxL w cb 65 [.int .i64 2, .int .i64 nc, .int .i64 nk, .bool fr, .int .i64 size, .map (some bb)]) (hm : MapVB w sb m sc) (r : Bool) (hr : Trm.numberB nc nk fr sc 0 n lv = r) :
  Calls Tryz.prog 63 #[.pointer (some ⟨cb, 0, none⟩), .agg #[.int .i64 0, .int .i64 n, .slice ov lv cv, .slice ot lt ct], .map (some sb)] w fun e w' => e = .returned (.bool r) ∧ Below w.heap.size w w' := by
 have hb : Below w.heap.size w (w.alloc (.cells #[.int .i64 0, .int .i64 n, .slice ov lv cv, .slice ot lt ct] 26)) := Below.one w _
 have HB := Lib.hid hb
 have HR := Lib.hid hr
 have c1 := hc.cell 1 rfl
 have c2 := hc.cell 2 rfl
 have c3 := hc.cell 3 rfl
 have cl := hc.lt
 have HM := Lib.hid hm
 have HN := Lib.hid hn
 clear hb hr hc hm hn
 by_cases h0 : 0 ≤ n
 ·by_cases h1 : n < nc
  ·obtain rfl : true = r := by rw [← HR.out]; simp [Trm.numberB, h0, h1]
   go_enter Tryz.func63, Tryz.ntmps63
   go_upto_region 3 with fail
   go_region
   all_goals (go_wp2_with fail; go_ret; first | exact ⟨rfl, HB.out⟩ | exact ⟨rfl, Below.drewN HB.out 1⟩ | exact ⟨rfl, Below.drewN HB.out _⟩)
  ·obtain rfl : false = r := by rw [← HR.out]; simp [Trm.numberB, h1]
   have f1 : decide (n < nc) = false := decide_eq_false h1
   clear h1
   go_enter Tryz.func63, Tryz.ntmps63
   go_upto_region 3 with fail
   go_region
   all_goals (go_wp2_with fail; go_ret; first | exact ⟨rfl, HB.out⟩ | exact ⟨rfl, Below.drewN HB.out 1⟩ | exact ⟨rfl, Below.drewN HB.out _⟩)
 ·obtain rfl : false = r := by rw [← HR.out]; simp [Trm.numberB, h0]
  have f0 : decide (0 ≤ n) = false := decide_eq_false h0
  clear h0
  go_enter Tryz.func63, Tryz.ntmps63
  go_upto_region 3 with fail
  go_region
  all_goals (go_wp2_with fail; go_ret; first | exact ⟨rfl, HB.out⟩ | exact ⟨rfl, Below.drewN HB.out 1⟩ | exact ⟨rfl, Below.drewN HB.out _⟩)
theorem number_1 (cb sb bb m : Nat) (nc nk size n : Int) (fr : Bool) (sc : Int → Bool) (ov ot : Option Addr) (lv cv lt ct : Nat) (w : World) (hn : I64 n) (hc : BoxL w cb 65 [.int .i64 2, .int .i64 nc, .int .i64 nk, .bool fr, .int .i64 size, .map (some bb)]) (hm : MapVB w sb m sc) (r : Bool) (hr : Trm.numberB nc nk fr sc 1 n lv = r) :
  Calls Tryz.prog 63 #[.pointer (some ⟨cb, 0, none⟩), .agg #[.int .i64 1, .int .i64 n, .slice ov lv cv, .slice ot lt ct], .map (some sb)] w fun e w' => e = .returned (.bool r) ∧ Below w.heap.size w w' := by
 have hb : Below w.heap.size w (w.alloc (.cells #[.int .i64 1, .int .i64 n, .slice ov lv cv, .slice ot lt ct] 26)) := Below.one w _
 have HB := Lib.hid hb
 have HR := Lib.hid hr
 have c1 := hc.cell 1 rfl
 have c2 := hc.cell 2 rfl
 have c3 := hc.cell 3 rfl
 have cl := hc.lt
 have HM := Lib.hid hm
 have HN := Lib.hid hn
 clear hb hr hc hm hn
 obtain rfl : sc n = r := by rw [← HR.out]; simp [Trm.numberB]
 go_enter Tryz.func63, Tryz.ntmps63
 go_wp2_with (at_lookup; refine wpList_lookVB rfl _ _ rfl sb m sc rfl (HM.out.keep HB.out) n rfl HN.out ?_)
 go_wp2_with fail
 go_ret
 exact ⟨rfl, HB.out⟩
theorem number_10 (cb sb bb m : Nat) (nc nk size n : Int) (fr : Bool) (sc : Int → Bool) (ov ot : Option Addr) (lv cv lt ct : Nat) (w : World) (hn : I64 n) (hc : BoxL w cb 65 [.int .i64 2, .int .i64 nc, .int .i64 nk, .bool fr, .int .i64 size, .map (some bb)]) (hm : MapVB w sb m sc) (r : Bool) (hr : Trm.numberB nc nk fr sc 10 n lv = r) :
  Calls Tryz.prog 63 #[.pointer (some ⟨cb, 0, none⟩), .agg #[.int .i64 10, .int .i64 n, .slice ov lv cv, .slice ot lt ct], .map (some sb)] w fun e w' => e = .returned (.bool r) ∧ Below w.heap.size w w' := by
 have hb : Below w.heap.size w (w.alloc (.cells #[.int .i64 10, .int .i64 n, .slice ov lv cv, .slice ot lt ct] 26)) := Below.one w _
 have HB := Lib.hid hb
 have HR := Lib.hid hr
 have c1 := hc.cell 1 rfl
 have c2 := hc.cell 2 rfl
 have c3 := hc.cell 3 rfl
 have cl := hc.lt
 have HM := Lib.hid hm
 have HN := Lib.hid hn
 clear hb hr hc hm hn
 obtain ⟨⟨f0, f1, f2, f3, f4⟩, hf⟩ : ∃ f, Prims.facts n = f := ⟨_, rfl⟩
 obtain ⟨b, hb⟩ : ∃ b, Prims.has n = b := ⟨_, rfl⟩
 have HC := Lib.hid (fun W => facts_to n f0 f1 f2 f3 f4 b hf hb HN.out.1 HN.out.2 W)
 obtain rfl : b = r := by rw [← HR.out, ← hb, Prims.has, Bool.eq_iff_iff]; simp [Trm.numberB]; omega
 clear hf hb
 go_enter Tryz.func63, Tryz.ntmps63
 go_wp2_with fail
 refine (HC.out _).mono ?_
 rintro e w1 ⟨rfl, hb1⟩
 have HB1 := Lib.hid (Below.next HB.out hb1)
 clear hb1 HC
 go_wp2_with fail
 go_ret
 exact ⟨rfl, HB1.out.alloc (by have := HB1.out.size; omega) _⟩
theorem number_11 (cb sb bb m : Nat) (nc nk size n : Int) (fr : Bool) (sc : Int → Bool) (ov ot : Option Addr) (lv cv lt ct : Nat) (w : World) (hn : I64 n) (hc : BoxL w cb 65 [.int .i64 2, .int .i64 nc, .int .i64 nk, .bool fr, .int .i64 size, .map (some bb)]) (hm : MapVB w sb m sc) (r : Bool) (hr : Trm.numberB nc nk fr sc 11 n lv = r) :
  Calls Tryz.prog 63 #[.pointer (some ⟨cb, 0, none⟩), .agg #[.int .i64 11, .int .i64 n, .slice ov lv cv, .slice ot lt ct], .map (some sb)] w fun e w' => e = .returned (.bool r) ∧ Below w.heap.size w w' := by
 have hb : Below w.heap.size w (w.alloc (.cells #[.int .i64 11, .int .i64 n, .slice ov lv cv, .slice ot lt ct] 26)) := Below.one w _
 have HB := Lib.hid hb
 have HR := Lib.hid hr
 have c1 := hc.cell 1 rfl
 have c2 := hc.cell 2 rfl
 have c3 := hc.cell 3 rfl
 have cl := hc.lt
 have HM := Lib.hid hm
 have HN := Lib.hid hn
 clear hb hr hc hm hn
 obtain ⟨⟨f0, f1, f2, f3, f4⟩, hf⟩ : ∃ f, Prims.facts n = f := ⟨_, rfl⟩
 obtain ⟨b, hb⟩ : ∃ b, Prims.has n = b := ⟨_, rfl⟩
 have HC := Lib.hid (fun W => facts_to n f0 f1 f2 f3 f4 b hf hb HN.out.1 HN.out.2 W)
 obtain rfl : b = r := by rw [← HR.out, ← hb, Prims.has, Bool.eq_iff_iff]; simp [Trm.numberB]; omega
 clear hf hb
 go_enter Tryz.func63, Tryz.ntmps63
 go_wp2_with fail
 refine (HC.out _).mono ?_
 rintro e w1 ⟨rfl, hb1⟩
 have HB1 := Lib.hid (Below.next HB.out hb1)
 clear hb1 HC
 go_wp2_with fail
 go_ret
 exact ⟨rfl, HB1.out.alloc (by have := HB1.out.size; omega) _⟩
theorem number_3 (cb sb bb m : Nat) (nc nk size n : Int) (fr : Bool) (sc : Int → Bool) (ov ot : Option Addr) (lv cv lt ct : Nat) (w : World) (hn : I64 n) (hc : BoxL w cb 65 [.int .i64 2, .int .i64 nc, .int .i64 nk, .bool fr, .int .i64 size, .map (some bb)]) (hm : MapVB w sb m sc) (r : Bool) (hr : Trm.numberB nc nk fr sc 3 n lv = r) :
  Calls Tryz.prog 63 #[.pointer (some ⟨cb, 0, none⟩), .agg #[.int .i64 3, .int .i64 n, .slice ov lv cv, .slice ot lt ct], .map (some sb)] w fun e w' => e = .returned (.bool r) ∧ Below w.heap.size w w' := by
 have hb : Below w.heap.size w (w.alloc (.cells #[.int .i64 3, .int .i64 n, .slice ov lv cv, .slice ot lt ct] 26)) := Below.one w _
 have HB := Lib.hid hb
 have HR := Lib.hid hr
 have c1 := hc.cell 1 rfl
 have c2 := hc.cell 2 rfl
 have c3 := hc.cell 3 rfl
 have cl := hc.lt
 have HM := Lib.hid hm
 have HN := Lib.hid hn
 clear hb hr hc hm hn
 by_cases h0 : n = 0
 ·subst h0
  obtain rfl : true = r := by rw [← HR.out]; simp [Trm.numberB]
  go_enter Tryz.func63, Tryz.ntmps63
  go_wp2_with fail
  go_ret
  exact ⟨rfl, HB.out⟩
 ·obtain rfl : false = r := by rw [← HR.out]; simp [Trm.numberB, h0]
  have f0 : (n == 0) = false := by simpa using h0
  clear h0
  go_enter Tryz.func63, Tryz.ntmps63
  go_wp2_with fail
  go_ret
  exact ⟨rfl, HB.out⟩
theorem number_5 (cb sb bb m : Nat) (nc nk size n : Int) (fr : Bool) (sc : Int → Bool) (ov ot : Option Addr) (lv cv lt ct : Nat) (w : World) (hn : I64 n) (hc : BoxL w cb 65 [.int .i64 2, .int .i64 nc, .int .i64 nk, .bool fr, .int .i64 size, .map (some bb)]) (hm : MapVB w sb m sc) (r : Bool) (hr : Trm.numberB nc nk fr sc 5 n lv = r) :
  Calls Tryz.prog 63 #[.pointer (some ⟨cb, 0, none⟩), .agg #[.int .i64 5, .int .i64 n, .slice ov lv cv, .slice ot lt ct], .map (some sb)] w fun e w' => e = .returned (.bool r) ∧ Below w.heap.size w w' := by
 have hb : Below w.heap.size w (w.alloc (.cells #[.int .i64 5, .int .i64 n, .slice ov lv cv, .slice ot lt ct] 26)) := Below.one w _
 have HB := Lib.hid hb
 have HR := Lib.hid hr
 have c1 := hc.cell 1 rfl
 have c2 := hc.cell 2 rfl
 have c3 := hc.cell 3 rfl
 have cl := hc.lt
 have HM := Lib.hid hm
 have HN := Lib.hid hn
 clear hb hr hc hm hn
 by_cases h0 : n = 0
 ·subst h0
  obtain rfl : true = r := by rw [← HR.out]; simp [Trm.numberB]
  go_enter Tryz.func63, Tryz.ntmps63
  go_wp2_with fail
  go_ret
  exact ⟨rfl, HB.out⟩
 ·obtain rfl : false = r := by rw [← HR.out]; simp [Trm.numberB, h0]
  have f0 : (n == 0) = false := by simpa using h0
  clear h0
  go_enter Tryz.func63, Tryz.ntmps63
  go_wp2_with fail
  go_ret
  exact ⟨rfl, HB.out⟩
theorem number_6 (cb sb bb m : Nat) (nc nk size n : Int) (fr : Bool) (sc : Int → Bool) (ov ot : Option Addr) (lv cv lt ct : Nat) (w : World) (hn : I64 n) (hc : BoxL w cb 65 [.int .i64 2, .int .i64 nc, .int .i64 nk, .bool fr, .int .i64 size, .map (some bb)]) (hm : MapVB w sb m sc) (r : Bool) (hr : Trm.numberB nc nk fr sc 6 n lv = r) :
  Calls Tryz.prog 63 #[.pointer (some ⟨cb, 0, none⟩), .agg #[.int .i64 6, .int .i64 n, .slice ov lv cv, .slice ot lt ct], .map (some sb)] w fun e w' => e = .returned (.bool r) ∧ Below w.heap.size w w' := by
 have hb : Below w.heap.size w (w.alloc (.cells #[.int .i64 6, .int .i64 n, .slice ov lv cv, .slice ot lt ct] 26)) := Below.one w _
 have HB := Lib.hid hb
 have HR := Lib.hid hr
 have c1 := hc.cell 1 rfl
 have c2 := hc.cell 2 rfl
 have c3 := hc.cell 3 rfl
 have cl := hc.lt
 have HM := Lib.hid hm
 have HN := Lib.hid hn
 clear hb hr hc hm hn
 by_cases h0 : n = 0
 ·subst h0
  obtain rfl : true = r := by rw [← HR.out]; simp [Trm.numberB]
  go_enter Tryz.func63, Tryz.ntmps63
  go_wp2_with fail
  go_ret
  exact ⟨rfl, HB.out⟩
 ·obtain rfl : false = r := by rw [← HR.out]; simp [Trm.numberB, h0]
  have f0 : (n == 0) = false := by simpa using h0
  clear h0
  go_enter Tryz.func63, Tryz.ntmps63
  go_wp2_with fail
  go_ret
  exact ⟨rfl, HB.out⟩
theorem number_8 (cb sb bb m : Nat) (nc nk size n : Int) (fr : Bool) (sc : Int → Bool) (ov ot : Option Addr) (lv cv lt ct : Nat) (w : World) (hn : I64 n) (hc : BoxL w cb 65 [.int .i64 2, .int .i64 nc, .int .i64 nk, .bool fr, .int .i64 size, .map (some bb)]) (hm : MapVB w sb m sc) (r : Bool) (hr : Trm.numberB nc nk fr sc 8 n lv = r) :
  Calls Tryz.prog 63 #[.pointer (some ⟨cb, 0, none⟩), .agg #[.int .i64 8, .int .i64 n, .slice ov lv cv, .slice ot lt ct], .map (some sb)] w fun e w' => e = .returned (.bool r) ∧ Below w.heap.size w w' := by
 have hb : Below w.heap.size w (w.alloc (.cells #[.int .i64 8, .int .i64 n, .slice ov lv cv, .slice ot lt ct] 26)) := Below.one w _
 have HB := Lib.hid hb
 have HR := Lib.hid hr
 have c1 := hc.cell 1 rfl
 have c2 := hc.cell 2 rfl
 have c3 := hc.cell 3 rfl
 have cl := hc.lt
 have HM := Lib.hid hm
 have HN := Lib.hid hn
 clear hb hr hc hm hn
 by_cases h0 : n = 0
 ·subst h0
  obtain rfl : true = r := by rw [← HR.out]; simp [Trm.numberB]
  go_enter Tryz.func63, Tryz.ntmps63
  go_wp2_with fail
  go_ret
  exact ⟨rfl, HB.out⟩
 ·obtain rfl : false = r := by rw [← HR.out]; simp [Trm.numberB, h0]
  have f0 : (n == 0) = false := by simpa using h0
  clear h0
  go_enter Tryz.func63, Tryz.ntmps63
  go_wp2_with fail
  go_ret
  exact ⟨rfl, HB.out⟩
theorem number_9 (cb sb bb m : Nat) (nc nk size n : Int) (fr : Bool) (sc : Int → Bool) (ov ot : Option Addr) (lv cv lt ct : Nat) (w : World) (hn : I64 n) (hc : BoxL w cb 65 [.int .i64 2, .int .i64 nc, .int .i64 nk, .bool fr, .int .i64 size, .map (some bb)]) (hm : MapVB w sb m sc) (r : Bool) (hr : Trm.numberB nc nk fr sc 9 n lv = r) :
  Calls Tryz.prog 63 #[.pointer (some ⟨cb, 0, none⟩), .agg #[.int .i64 9, .int .i64 n, .slice ov lv cv, .slice ot lt ct], .map (some sb)] w fun e w' => e = .returned (.bool r) ∧ Below w.heap.size w w' := by
 have hb : Below w.heap.size w (w.alloc (.cells #[.int .i64 9, .int .i64 n, .slice ov lv cv, .slice ot lt ct] 26)) := Below.one w _
 have HB := Lib.hid hb
 have HR := Lib.hid hr
 have c1 := hc.cell 1 rfl
 have c2 := hc.cell 2 rfl
 have c3 := hc.cell 3 rfl
 have cl := hc.lt
 have HM := Lib.hid hm
 have HN := Lib.hid hn
 clear hb hr hc hm hn
 by_cases h0 : n = 0
 ·subst h0
  obtain rfl : true = r := by rw [← HR.out]; simp [Trm.numberB]
  go_enter Tryz.func63, Tryz.ntmps63
  go_wp2_with fail
  go_ret
  exact ⟨rfl, HB.out⟩
 ·obtain rfl : false = r := by rw [← HR.out]; simp [Trm.numberB, h0]
  have f0 : (n == 0) = false := by simpa using h0
  clear h0
  go_enter Tryz.func63, Tryz.ntmps63
  go_wp2_with fail
  go_ret
  exact ⟨rfl, HB.out⟩
theorem number_12 (cb sb bb m : Nat) (nc nk size n : Int) (fr : Bool) (sc : Int → Bool) (ov ot : Option Addr) (lv cv lt ct : Nat) (w : World) (hn : I64 n) (hc : BoxL w cb 65 [.int .i64 2, .int .i64 nc, .int .i64 nk, .bool fr, .int .i64 size, .map (some bb)]) (hm : MapVB w sb m sc) (r : Bool) (hr : Trm.numberB nc nk fr sc 12 n lv = r) :
  Calls Tryz.prog 63 #[.pointer (some ⟨cb, 0, none⟩), .agg #[.int .i64 12, .int .i64 n, .slice ov lv cv, .slice ot lt ct], .map (some sb)] w fun e w' => e = .returned (.bool r) ∧ Below w.heap.size w w' := by
 have hb : Below w.heap.size w (w.alloc (.cells #[.int .i64 12, .int .i64 n, .slice ov lv cv, .slice ot lt ct] 26)) := Below.one w _
 have HB := Lib.hid hb
 have HR := Lib.hid hr
 have c1 := hc.cell 1 rfl
 have c2 := hc.cell 2 rfl
 have c3 := hc.cell 3 rfl
 have cl := hc.lt
 have HM := Lib.hid hm
 have HN := Lib.hid hn
 clear hb hr hc hm hn
 by_cases h0 : n = 0
 ·subst h0
  obtain rfl : true = r := by rw [← HR.out]; simp [Trm.numberB]
  go_enter Tryz.func63, Tryz.ntmps63
  go_wp2_with fail
  go_ret
  exact ⟨rfl, HB.out⟩
 ·obtain rfl : false = r := by rw [← HR.out]; simp [Trm.numberB, h0]
  have f0 : (n == 0) = false := by simpa using h0
  clear h0
  go_enter Tryz.func63, Tryz.ntmps63
  go_wp2_with fail
  go_ret
  exact ⟨rfl, HB.out⟩
theorem number_13 (cb sb bb m : Nat) (nc nk size n : Int) (fr : Bool) (sc : Int → Bool) (ov ot : Option Addr) (lv cv lt ct : Nat) (w : World) (hn : I64 n) (hc : BoxL w cb 65 [.int .i64 2, .int .i64 nc, .int .i64 nk, .bool fr, .int .i64 size, .map (some bb)]) (hm : MapVB w sb m sc) (r : Bool) (hr : Trm.numberB nc nk fr sc 13 n lv = r) :
  Calls Tryz.prog 63 #[.pointer (some ⟨cb, 0, none⟩), .agg #[.int .i64 13, .int .i64 n, .slice ov lv cv, .slice ot lt ct], .map (some sb)] w fun e w' => e = .returned (.bool r) ∧ Below w.heap.size w w' := by
 have hb : Below w.heap.size w (w.alloc (.cells #[.int .i64 13, .int .i64 n, .slice ov lv cv, .slice ot lt ct] 26)) := Below.one w _
 have HB := Lib.hid hb
 have HR := Lib.hid hr
 have c1 := hc.cell 1 rfl
 have c2 := hc.cell 2 rfl
 have c3 := hc.cell 3 rfl
 have cl := hc.lt
 have HM := Lib.hid hm
 have HN := Lib.hid hn
 clear hb hr hc hm hn
 by_cases h0 : n = 0
 ·subst h0
  obtain rfl : true = r := by rw [← HR.out]; simp [Trm.numberB]
  go_enter Tryz.func63, Tryz.ntmps63
  go_wp2_with fail
  go_ret
  exact ⟨rfl, HB.out⟩
 ·obtain rfl : false = r := by rw [← HR.out]; simp [Trm.numberB, h0]
  have f0 : (n == 0) = false := by simpa using h0
  clear h0
  go_enter Tryz.func63, Tryz.ntmps63
  go_wp2_with fail
  go_ret
  exact ⟨rfl, HB.out⟩
theorem number_15 (cb sb bb m : Nat) (nc nk size n : Int) (fr : Bool) (sc : Int → Bool) (ov ot : Option Addr) (lv cv lt ct : Nat) (w : World) (hn : I64 n) (hc : BoxL w cb 65 [.int .i64 2, .int .i64 nc, .int .i64 nk, .bool fr, .int .i64 size, .map (some bb)]) (hm : MapVB w sb m sc) (r : Bool) (hr : Trm.numberB nc nk fr sc 15 n lv = r) :
  Calls Tryz.prog 63 #[.pointer (some ⟨cb, 0, none⟩), .agg #[.int .i64 15, .int .i64 n, .slice ov lv cv, .slice ot lt ct], .map (some sb)] w fun e w' => e = .returned (.bool r) ∧ Below w.heap.size w w' := by
 have hb : Below w.heap.size w (w.alloc (.cells #[.int .i64 15, .int .i64 n, .slice ov lv cv, .slice ot lt ct] 26)) := Below.one w _
 have HB := Lib.hid hb
 have HR := Lib.hid hr
 have c1 := hc.cell 1 rfl
 have c2 := hc.cell 2 rfl
 have c3 := hc.cell 3 rfl
 have cl := hc.lt
 have HM := Lib.hid hm
 have HN := Lib.hid hn
 clear hb hr hc hm hn
 by_cases h0 : n = 0
 ·subst h0
  obtain rfl : true = r := by rw [← HR.out]; simp [Trm.numberB]
  go_enter Tryz.func63, Tryz.ntmps63
  go_wp2_with fail
  go_ret
  exact ⟨rfl, HB.out⟩
 ·obtain rfl : false = r := by rw [← HR.out]; simp [Trm.numberB, h0]
  have f0 : (n == 0) = false := by simpa using h0
  clear h0
  go_enter Tryz.func63, Tryz.ntmps63
  go_wp2_with fail
  go_ret
  exact ⟨rfl, HB.out⟩
theorem number_16 (cb sb bb m : Nat) (nc nk size n : Int) (fr : Bool) (sc : Int → Bool) (ov ot : Option Addr) (lv cv lt ct : Nat) (w : World) (hn : I64 n) (hc : BoxL w cb 65 [.int .i64 2, .int .i64 nc, .int .i64 nk, .bool fr, .int .i64 size, .map (some bb)]) (hm : MapVB w sb m sc) (r : Bool) (hr : Trm.numberB nc nk fr sc 16 n lv = r) :
  Calls Tryz.prog 63 #[.pointer (some ⟨cb, 0, none⟩), .agg #[.int .i64 16, .int .i64 n, .slice ov lv cv, .slice ot lt ct], .map (some sb)] w fun e w' => e = .returned (.bool r) ∧ Below w.heap.size w w' := by
 have hb : Below w.heap.size w (w.alloc (.cells #[.int .i64 16, .int .i64 n, .slice ov lv cv, .slice ot lt ct] 26)) := Below.one w _
 have HB := Lib.hid hb
 have HR := Lib.hid hr
 have c1 := hc.cell 1 rfl
 have c2 := hc.cell 2 rfl
 have c3 := hc.cell 3 rfl
 have cl := hc.lt
 have HM := Lib.hid hm
 have HN := Lib.hid hn
 clear hb hr hc hm hn
 by_cases h0 : n = 0
 ·subst h0
  obtain rfl : true = r := by rw [← HR.out]; simp [Trm.numberB]
  go_enter Tryz.func63, Tryz.ntmps63
  go_wp2_with fail
  go_ret
  exact ⟨rfl, HB.out⟩
 ·obtain rfl : false = r := by rw [← HR.out]; simp [Trm.numberB, h0]
  have f0 : (n == 0) = false := by simpa using h0
  clear h0
  go_enter Tryz.func63, Tryz.ntmps63
  go_wp2_with fail
  go_ret
  exact ⟨rfl, HB.out⟩
theorem number_17 (cb sb bb m : Nat) (nc nk size n : Int) (fr : Bool) (sc : Int → Bool) (ov ot : Option Addr) (lv cv lt ct : Nat) (w : World) (hn : I64 n) (hc : BoxL w cb 65 [.int .i64 2, .int .i64 nc, .int .i64 nk, .bool fr, .int .i64 size, .map (some bb)]) (hm : MapVB w sb m sc) (r : Bool) (hr : Trm.numberB nc nk fr sc 17 n lv = r) :
  Calls Tryz.prog 63 #[.pointer (some ⟨cb, 0, none⟩), .agg #[.int .i64 17, .int .i64 n, .slice ov lv cv, .slice ot lt ct], .map (some sb)] w fun e w' => e = .returned (.bool r) ∧ Below w.heap.size w w' := by
 have hb : Below w.heap.size w (w.alloc (.cells #[.int .i64 17, .int .i64 n, .slice ov lv cv, .slice ot lt ct] 26)) := Below.one w _
 have HB := Lib.hid hb
 have HR := Lib.hid hr
 have c1 := hc.cell 1 rfl
 have c2 := hc.cell 2 rfl
 have c3 := hc.cell 3 rfl
 have cl := hc.lt
 have HM := Lib.hid hm
 have HN := Lib.hid hn
 clear hb hr hc hm hn
 by_cases h0 : n = 0
 ·subst h0
  obtain rfl : true = r := by rw [← HR.out]; simp [Trm.numberB]
  go_enter Tryz.func63, Tryz.ntmps63
  go_wp2_with fail
  go_ret
  exact ⟨rfl, HB.out⟩
 ·obtain rfl : false = r := by rw [← HR.out]; simp [Trm.numberB, h0]
  have f0 : (n == 0) = false := by simpa using h0
  clear h0
  go_enter Tryz.func63, Tryz.ntmps63
  go_wp2_with fail
  go_ret
  exact ⟨rfl, HB.out⟩
theorem number_18 (cb sb bb m : Nat) (nc nk size n : Int) (fr : Bool) (sc : Int → Bool) (ov ot : Option Addr) (lv cv lt ct : Nat) (w : World) (hn : I64 n) (hc : BoxL w cb 65 [.int .i64 2, .int .i64 nc, .int .i64 nk, .bool fr, .int .i64 size, .map (some bb)]) (hm : MapVB w sb m sc) (r : Bool) (hr : Trm.numberB nc nk fr sc 18 n lv = r) :
  Calls Tryz.prog 63 #[.pointer (some ⟨cb, 0, none⟩), .agg #[.int .i64 18, .int .i64 n, .slice ov lv cv, .slice ot lt ct], .map (some sb)] w fun e w' => e = .returned (.bool r) ∧ Below w.heap.size w w' := by
 have hb : Below w.heap.size w (w.alloc (.cells #[.int .i64 18, .int .i64 n, .slice ov lv cv, .slice ot lt ct] 26)) := Below.one w _
 have HB := Lib.hid hb
 have HR := Lib.hid hr
 have c1 := hc.cell 1 rfl
 have c2 := hc.cell 2 rfl
 have c3 := hc.cell 3 rfl
 have cl := hc.lt
 have HM := Lib.hid hm
 have HN := Lib.hid hn
 clear hb hr hc hm hn
 by_cases h0 : n = 0
 ·subst h0
  obtain rfl : true = r := by rw [← HR.out]; simp [Trm.numberB]
  go_enter Tryz.func63, Tryz.ntmps63
  go_wp2_with fail
  go_ret
  exact ⟨rfl, HB.out⟩
 ·obtain rfl : false = r := by rw [← HR.out]; simp [Trm.numberB, h0]
  have f0 : (n == 0) = false := by simpa using h0
  clear h0
  go_enter Tryz.func63, Tryz.ntmps63
  go_wp2_with fail
  go_ret
  exact ⟨rfl, HB.out⟩
theorem number_4 (cb sb bb m : Nat) (nc nk size n : Int) (fr : Bool) (sc : Int → Bool) (ov ot : Option Addr) (lv cv lt ct : Nat) (w : World) (hn : I64 n) (hc : BoxL w cb 65 [.int .i64 2, .int .i64 nc, .int .i64 nk, .bool fr, .int .i64 size, .map (some bb)]) (hm : MapVB w sb m sc) (r : Bool) (hr : Trm.numberB nc nk fr sc 4 n lv = r) :
  Calls Tryz.prog 63 #[.pointer (some ⟨cb, 0, none⟩), .agg #[.int .i64 4, .int .i64 n, .slice ov lv cv, .slice ot lt ct], .map (some sb)] w fun e w' => e = .returned (.bool r) ∧ Below w.heap.size w w' := by
 have hb : Below w.heap.size w (w.alloc (.cells #[.int .i64 4, .int .i64 n, .slice ov lv cv, .slice ot lt ct] 26)) := Below.one w _
 have HB := Lib.hid hb
 have HR := Lib.hid hr
 have c1 := hc.cell 1 rfl
 have c2 := hc.cell 2 rfl
 have c3 := hc.cell 3 rfl
 have cl := hc.lt
 have HM := Lib.hid hm
 have HN := Lib.hid hn
 clear hb hr hc hm hn
 by_cases h0 : n = 0
 ·subst h0
  obtain rfl : true = r := by rw [← HR.out]; simp [Trm.numberB]
  go_enter Tryz.func63, Tryz.ntmps63
  go_wp2_with fail
  go_ret
  exact ⟨rfl, HB.out⟩
 ·have f0 : (n == 0) = false := by simpa using h0
  by_cases h1 : n = 1
  ·subst h1
   by_cases hv : 0 < lv
   ·obtain rfl : true = r := by rw [← HR.out]; simp [Trm.numberB, hv]
    have f1 : decide (0 < (lv : Int)) = true := decide_eq_true (by omega)
    go_enter Tryz.func63, Tryz.ntmps63
    go_wp2_with fail
    go_ret
    exact ⟨rfl, HB.out⟩
   ·obtain rfl : false = r := by rw [← HR.out]; simp [Trm.numberB, hv]
    have f1 : decide (0 < (lv : Int)) = false := decide_eq_false (by omega)
    go_enter Tryz.func63, Tryz.ntmps63
    go_wp2_with fail
    go_ret
    exact ⟨rfl, HB.out⟩
  ·obtain rfl : false = r := by rw [← HR.out]; simp [Trm.numberB, h0, h1]
   have f1 : (n == 1) = false := by simpa using h1
   clear h0 h1
   go_enter Tryz.func63, Tryz.ntmps63
   go_wp2_with fail
   go_ret
   exact ⟨rfl, HB.out⟩
end
end Go.Proofs.YtgbibibmpoekiaaGreatDoor
