/-
  What the proofs lean on: RT2.
-/
import Derived.BigQuiet
import Derived.Test.YtigkhmppnnljiaaGreatDoorPreA31
set_option maxRecDepth 100000
set_option maxHeartbeats 16000000
namespace Go.Proofs.YtigkhmppnnljiaaGreatDoor
section
open Go Go.RowKit
theorem rnumber_0 (cb : Nat) (nc nk size : Int) (fr ok : Bool) (bsl : Value) (n : Int) (ov ot : Option Addr) (lv cv lt ct : Nat) (l : List Int) (sl : Value) (B : Nat) (w : World) (hc : BoxL w cb 114 [.int .i64 3, .int .i64 nc, .int .i64 nk, .bool fr, .int .i64 size, bsl, .bool ok]) (hs : SlC w B 1 IntR l sl) (_hB : B ≤ w.heap.size) :
  Calls Tryz.prog 115 #[.pointer (some ⟨cb, 0, none⟩), .agg #[.int .i64 0, .int .i64 n, .slice ov lv cv, .slice ot lt ct], sl] w fun e w' => e = .returned (.bool (Trm.numberB nc nk fr (fun v => l.contains v) 0 n)) ∧ Below w.heap.size w w' := by
 obtain ⟨os, ls, cs, rfl⟩ := hs.form
 rw [show Trm.numberB nc nk fr (fun v => l.contains v) 0 n = (decide (0 ≤ n) && decide (n < nc)) from rfl]
 obtain ⟨W1, hW1⟩ : ∃ W1, w.alloc (.cells #[.int .i64 0, .int .i64 n, .slice ov lv cv, .slice ot lt ct] 41) = W1 := ⟨_, rfl⟩
 have HW := Lib.hid hW1
 have HB1 := Lib.hid (show Below w.heap.size w W1 from by rw [← hW1]; exact Below.one w _)
 have HX1 := Lib.hid (show BoxL W1 w.heap.size 41 [.int .i64 0, .int .i64 n, .slice ov lv cv, .slice ot lt ct] from by rw [← hW1]; exact BoxL.new rfl _ _)
 have HC1 := Lib.hid (hc.keep HB1.out)
 clear hW1 hs
 have HD := Lib.hid ((Below.refl W1.heap.size W1).drew)
 cases h : decide (0 ≤ n) with
 | false =>
  have x0 := HX1.out.cell 0 rfl
  have x1 := HX1.out.cell 1 rfl
  have xl := HX1.out.lt
  go_enter Tryz.func115, Tryz.ntmps115
  go_upto_region 1 with fail
  rw [HW.out]
  go_upto_region 3 with fail
  clear x0 x1 xl
  refine wp_region_quiet_all (Below W1.heap.size W1) (by kernel_rfl) (by kernel_rfl) HD.out ?_
  intro T0 _ WW HWW HWW2
  have y1 : ∀ t, (WW t).cell? _ = _ := fun t => ((HWW t).cell (p := ⟨w.heap.size, 1, none⟩) HX1.out.lt).trans (HX1.out.cell 1 rfl)
  have HWH := Lib.hid HWW
  clear HWW HWW2
  repeat (go_big_quiet_step (fail))
  refine wpQuiet_nil ?_
  intro t'
  have HF := Lib.hid (HB1.out.trans ((HWH.out t').mono HB1.out.size))
  clear y1 HWH
  go_wp2_with fail
  go_ret
  exact ⟨rfl, HF.out⟩
 | true =>
  have x0 := HX1.out.cell 0 rfl
  have x1 := HX1.out.cell 1 rfl
  have xl := HX1.out.lt
  go_enter Tryz.func115, Tryz.ntmps115
  go_upto_region 1 with fail
  rw [HW.out]
  go_upto_region 3 with fail
  clear x0 x1 xl
  refine wp_region_quiet_all (Below W1.heap.size W1) (by kernel_rfl) (by kernel_rfl) HD.out ?_
  intro T0 _ WW HWW HWW2
  have y1 : ∀ t, (WW t).cell? _ = _ := fun t => ((HWW t).cell (p := ⟨w.heap.size, 1, none⟩) HX1.out.lt).trans (HX1.out.cell 1 rfl)
  have z1 : ∀ t, (WW t).cell? _ = _ := fun t => ((HWW t).cell (p := ⟨cb, 1, none⟩) HC1.out.lt).trans (HC1.out.cell 1 rfl)
  have HWH := Lib.hid HWW
  clear HWW HWW2
  repeat (go_big_quiet_step (fail))
  refine wpQuiet_nil ?_
  intro t'
  have HF := Lib.hid (HB1.out.trans ((HWH.out t').mono HB1.out.size))
  clear y1 z1 HWH
  go_wp2_with fail
  go_ret
  exact ⟨rfl, HF.out⟩
theorem rnumber_1 (cb : Nat) (nc nk size : Int) (fr ok : Bool) (bsl : Value) (n : Int) (ov ot : Option Addr) (lv cv lt ct : Nat) (l : List Int) (sl : Value) (B : Nat) (w : World) (hc : BoxL w cb 114 [.int .i64 3, .int .i64 nc, .int .i64 nk, .bool fr, .int .i64 size, bsl, .bool ok]) (hs : SlC w B 1 IntR l sl) (hB : B ≤ w.heap.size) :
  Calls Tryz.prog 115 #[.pointer (some ⟨cb, 0, none⟩), .agg #[.int .i64 1, .int .i64 n, .slice ov lv cv, .slice ot lt ct], sl] w fun e w' => e = .returned (.bool (Trm.numberB nc nk fr (fun v => l.contains v) 1 n)) ∧ Below w.heap.size w w' := by
 obtain ⟨os, ls, cs, rfl⟩ := hs.form
 rw [show Trm.numberB nc nk fr (fun v => l.contains v) 1 n = l.contains n from rfl]
 obtain ⟨W1, hW1⟩ : ∃ W1, w.alloc (.cells #[.int .i64 1, .int .i64 n, .slice ov lv cv, .slice ot lt ct] 41) = W1 := ⟨_, rfl⟩
 have HW := Lib.hid hW1
 have HB1 := Lib.hid (show Below w.heap.size w W1 from by rw [← hW1]; exact Below.one w _)
 have HX1 := Lib.hid (show BoxL W1 w.heap.size 41 [.int .i64 1, .int .i64 n, .slice ov lv cv, .slice ot lt ct] from by rw [← hW1]; exact BoxL.new rfl _ _)
 have HC1 := Lib.hid (hc.keep HB1.out)
 clear hW1
 obtain ⟨r, hr⟩ : ∃ r, l.contains n = r := ⟨_, rfl⟩
 rw [hr]
 have HH := Lib.hid (rhas_any l (.slice os ls cs) n B W1 (hs.kept (HB1.out.mono hB) fun _ _ _ h => h) (by have := HB1.out.size; omega) r hr)
 have x0 := HX1.out.cell 0 rfl
 have x1 := HX1.out.cell 1 rfl
 have xl := HX1.out.lt
 clear hs hr
 go_enter Tryz.func115, Tryz.ntmps115
 go_upto_region 1 with fail
 rw [HW.out]
 go_wp2_with fail
 with_reducible refine HH.out.mono ?_
 rintro e w2 ⟨rfl, hb2⟩
 have HF := Lib.hid (HB1.out.trans (hb2.mono HB1.out.size))
 clear hb2 HH x0 x1 xl
 go_wp2_with fail
 go_ret
 exact ⟨rfl, HF.out⟩
theorem rnumber_3 (cb : Nat) (nc nk size : Int) (fr ok : Bool) (bsl : Value) (n : Int) (ov ot : Option Addr) (lv cv lt ct : Nat) (l : List Int) (sl : Value) (B : Nat) (w : World) (hc : BoxL w cb 114 [.int .i64 3, .int .i64 nc, .int .i64 nk, .bool fr, .int .i64 size, bsl, .bool ok]) (hs : SlC w B 1 IntR l sl) (_hB : B ≤ w.heap.size) :
  Calls Tryz.prog 115 #[.pointer (some ⟨cb, 0, none⟩), .agg #[.int .i64 3, .int .i64 n, .slice ov lv cv, .slice ot lt ct], sl] w fun e w' => e = .returned (.bool (Trm.numberB nc nk fr (fun v => l.contains v) 3 n)) ∧ Below w.heap.size w w' := by
 obtain ⟨os, ls, cs, rfl⟩ := hs.form
 rw [show Trm.numberB nc nk fr (fun v => l.contains v) 3 n = decide (n = 0) from rfl]
 have g : (n == 0) = decide (n = 0) := by rw [Bool.eq_iff_iff]; simp
 obtain ⟨W1, hW1⟩ : ∃ W1, w.alloc (.cells #[.int .i64 3, .int .i64 n, .slice ov lv cv, .slice ot lt ct] 41) = W1 := ⟨_, rfl⟩
 have HW := Lib.hid hW1
 have HB1 := Lib.hid (show Below w.heap.size w W1 from by rw [← hW1]; exact Below.one w _)
 have HX1 := Lib.hid (show BoxL W1 w.heap.size 41 [.int .i64 3, .int .i64 n, .slice ov lv cv, .slice ot lt ct] from by rw [← hW1]; exact BoxL.new rfl _ _)
 have HC1 := Lib.hid (hc.keep HB1.out)
 clear hW1 hs
 have x0 := HX1.out.cell 0 rfl
 have x1 := HX1.out.cell 1 rfl
 have xl := HX1.out.lt
 have y3 := HC1.out.cell 3 rfl
 have yl := HC1.out.lt
 go_enter Tryz.func115, Tryz.ntmps115
 go_upto_region 1 with fail
 rw [HW.out]
 go_wp2_with fail
 go_ret
 exact ⟨rfl, HB1.out⟩
theorem rnumber_5 (cb : Nat) (nc nk size : Int) (fr ok : Bool) (bsl : Value) (n : Int) (ov ot : Option Addr) (lv cv lt ct : Nat) (l : List Int) (sl : Value) (B : Nat) (w : World) (hc : BoxL w cb 114 [.int .i64 3, .int .i64 nc, .int .i64 nk, .bool fr, .int .i64 size, bsl, .bool ok]) (hs : SlC w B 1 IntR l sl) (_hB : B ≤ w.heap.size) :
  Calls Tryz.prog 115 #[.pointer (some ⟨cb, 0, none⟩), .agg #[.int .i64 5, .int .i64 n, .slice ov lv cv, .slice ot lt ct], sl] w fun e w' => e = .returned (.bool (Trm.numberB nc nk fr (fun v => l.contains v) 5 n)) ∧ Below w.heap.size w w' := by
 obtain ⟨os, ls, cs, rfl⟩ := hs.form
 rw [show Trm.numberB nc nk fr (fun v => l.contains v) 5 n = decide (n = 0) from rfl]
 have g : (n == 0) = decide (n = 0) := by rw [Bool.eq_iff_iff]; simp
 obtain ⟨W1, hW1⟩ : ∃ W1, w.alloc (.cells #[.int .i64 5, .int .i64 n, .slice ov lv cv, .slice ot lt ct] 41) = W1 := ⟨_, rfl⟩
 have HW := Lib.hid hW1
 have HB1 := Lib.hid (show Below w.heap.size w W1 from by rw [← hW1]; exact Below.one w _)
 have HX1 := Lib.hid (show BoxL W1 w.heap.size 41 [.int .i64 5, .int .i64 n, .slice ov lv cv, .slice ot lt ct] from by rw [← hW1]; exact BoxL.new rfl _ _)
 have HC1 := Lib.hid (hc.keep HB1.out)
 clear hW1 hs
 have x0 := HX1.out.cell 0 rfl
 have x1 := HX1.out.cell 1 rfl
 have xl := HX1.out.lt
 have y3 := HC1.out.cell 3 rfl
 have yl := HC1.out.lt
 go_enter Tryz.func115, Tryz.ntmps115
 go_upto_region 1 with fail
 rw [HW.out]
 go_wp2_with fail
 go_ret
 exact ⟨rfl, HB1.out⟩
theorem rnumber_6 (cb : Nat) (nc nk size : Int) (fr ok : Bool) (bsl : Value) (n : Int) (ov ot : Option Addr) (lv cv lt ct : Nat) (l : List Int) (sl : Value) (B : Nat) (w : World) (hc : BoxL w cb 114 [.int .i64 3, .int .i64 nc, .int .i64 nk, .bool fr, .int .i64 size, bsl, .bool ok]) (hs : SlC w B 1 IntR l sl) (_hB : B ≤ w.heap.size) :
  Calls Tryz.prog 115 #[.pointer (some ⟨cb, 0, none⟩), .agg #[.int .i64 6, .int .i64 n, .slice ov lv cv, .slice ot lt ct], sl] w fun e w' => e = .returned (.bool (Trm.numberB nc nk fr (fun v => l.contains v) 6 n)) ∧ Below w.heap.size w w' := by
 obtain ⟨os, ls, cs, rfl⟩ := hs.form
 rw [show Trm.numberB nc nk fr (fun v => l.contains v) 6 n = decide (n = 0) from rfl]
 have g : (n == 0) = decide (n = 0) := by rw [Bool.eq_iff_iff]; simp
 obtain ⟨W1, hW1⟩ : ∃ W1, w.alloc (.cells #[.int .i64 6, .int .i64 n, .slice ov lv cv, .slice ot lt ct] 41) = W1 := ⟨_, rfl⟩
 have HW := Lib.hid hW1
 have HB1 := Lib.hid (show Below w.heap.size w W1 from by rw [← hW1]; exact Below.one w _)
 have HX1 := Lib.hid (show BoxL W1 w.heap.size 41 [.int .i64 6, .int .i64 n, .slice ov lv cv, .slice ot lt ct] from by rw [← hW1]; exact BoxL.new rfl _ _)
 have HC1 := Lib.hid (hc.keep HB1.out)
 clear hW1 hs
 have x0 := HX1.out.cell 0 rfl
 have x1 := HX1.out.cell 1 rfl
 have xl := HX1.out.lt
 have y3 := HC1.out.cell 3 rfl
 have yl := HC1.out.lt
 go_enter Tryz.func115, Tryz.ntmps115
 go_upto_region 1 with fail
 rw [HW.out]
 go_wp2_with fail
 go_ret
 exact ⟨rfl, HB1.out⟩
theorem rnumber_8 (cb : Nat) (nc nk size : Int) (fr ok : Bool) (bsl : Value) (n : Int) (ov ot : Option Addr) (lv cv lt ct : Nat) (l : List Int) (sl : Value) (B : Nat) (w : World) (hc : BoxL w cb 114 [.int .i64 3, .int .i64 nc, .int .i64 nk, .bool fr, .int .i64 size, bsl, .bool ok]) (hs : SlC w B 1 IntR l sl) (_hB : B ≤ w.heap.size) :
  Calls Tryz.prog 115 #[.pointer (some ⟨cb, 0, none⟩), .agg #[.int .i64 8, .int .i64 n, .slice ov lv cv, .slice ot lt ct], sl] w fun e w' => e = .returned (.bool (Trm.numberB nc nk fr (fun v => l.contains v) 8 n)) ∧ Below w.heap.size w w' := by
 obtain ⟨os, ls, cs, rfl⟩ := hs.form
 rw [show Trm.numberB nc nk fr (fun v => l.contains v) 8 n = decide (n = 0) from rfl]
 have g : (n == 0) = decide (n = 0) := by rw [Bool.eq_iff_iff]; simp
 obtain ⟨W1, hW1⟩ : ∃ W1, w.alloc (.cells #[.int .i64 8, .int .i64 n, .slice ov lv cv, .slice ot lt ct] 41) = W1 := ⟨_, rfl⟩
 have HW := Lib.hid hW1
 have HB1 := Lib.hid (show Below w.heap.size w W1 from by rw [← hW1]; exact Below.one w _)
 have HX1 := Lib.hid (show BoxL W1 w.heap.size 41 [.int .i64 8, .int .i64 n, .slice ov lv cv, .slice ot lt ct] from by rw [← hW1]; exact BoxL.new rfl _ _)
 have HC1 := Lib.hid (hc.keep HB1.out)
 clear hW1 hs
 have x0 := HX1.out.cell 0 rfl
 have x1 := HX1.out.cell 1 rfl
 have xl := HX1.out.lt
 have y3 := HC1.out.cell 3 rfl
 have yl := HC1.out.lt
 go_enter Tryz.func115, Tryz.ntmps115
 go_upto_region 1 with fail
 rw [HW.out]
 go_wp2_with fail
 go_ret
 exact ⟨rfl, HB1.out⟩
theorem rnumber_9 (cb : Nat) (nc nk size : Int) (fr ok : Bool) (bsl : Value) (n : Int) (ov ot : Option Addr) (lv cv lt ct : Nat) (l : List Int) (sl : Value) (B : Nat) (w : World) (hc : BoxL w cb 114 [.int .i64 3, .int .i64 nc, .int .i64 nk, .bool fr, .int .i64 size, bsl, .bool ok]) (hs : SlC w B 1 IntR l sl) (_hB : B ≤ w.heap.size) :
  Calls Tryz.prog 115 #[.pointer (some ⟨cb, 0, none⟩), .agg #[.int .i64 9, .int .i64 n, .slice ov lv cv, .slice ot lt ct], sl] w fun e w' => e = .returned (.bool (Trm.numberB nc nk fr (fun v => l.contains v) 9 n)) ∧ Below w.heap.size w w' := by
 obtain ⟨os, ls, cs, rfl⟩ := hs.form
 rw [show Trm.numberB nc nk fr (fun v => l.contains v) 9 n = decide (n = 0) from rfl]
 have g : (n == 0) = decide (n = 0) := by rw [Bool.eq_iff_iff]; simp
 obtain ⟨W1, hW1⟩ : ∃ W1, w.alloc (.cells #[.int .i64 9, .int .i64 n, .slice ov lv cv, .slice ot lt ct] 41) = W1 := ⟨_, rfl⟩
 have HW := Lib.hid hW1
 have HB1 := Lib.hid (show Below w.heap.size w W1 from by rw [← hW1]; exact Below.one w _)
 have HX1 := Lib.hid (show BoxL W1 w.heap.size 41 [.int .i64 9, .int .i64 n, .slice ov lv cv, .slice ot lt ct] from by rw [← hW1]; exact BoxL.new rfl _ _)
 have HC1 := Lib.hid (hc.keep HB1.out)
 clear hW1 hs
 have x0 := HX1.out.cell 0 rfl
 have x1 := HX1.out.cell 1 rfl
 have xl := HX1.out.lt
 have y3 := HC1.out.cell 3 rfl
 have yl := HC1.out.lt
 go_enter Tryz.func115, Tryz.ntmps115
 go_upto_region 1 with fail
 rw [HW.out]
 go_wp2_with fail
 go_ret
 exact ⟨rfl, HB1.out⟩
theorem rnumber_10 (cb : Nat) (nc nk size : Int) (fr ok : Bool) (bsl : Value) (n : Int) (ov ot : Option Addr) (lv cv lt ct : Nat) (l : List Int) (sl : Value) (B : Nat) (w : World) (hc : BoxL w cb 114 [.int .i64 3, .int .i64 nc, .int .i64 nk, .bool fr, .int .i64 size, bsl, .bool ok]) (hs : SlC w B 1 IntR l sl) (_hB : B ≤ w.heap.size) :
  Calls Tryz.prog 115 #[.pointer (some ⟨cb, 0, none⟩), .agg #[.int .i64 10, .int .i64 n, .slice ov lv cv, .slice ot lt ct], sl] w fun e w' => e = .returned (.bool (Trm.numberB nc nk fr (fun v => l.contains v) 10 n)) ∧ Below w.heap.size w w' := by
 obtain ⟨os, ls, cs, rfl⟩ := hs.form
 rw [show Trm.numberB nc nk fr (fun v => l.contains v) 10 n = (decide (0 ≤ n) && decide (n < 31)) from rfl]
 have g : decide (n ≤ 30) = decide (n < 31) := by rw [decide_eq_decide]; omega
 obtain ⟨W1, hW1⟩ : ∃ W1, w.alloc (.cells #[.int .i64 10, .int .i64 n, .slice ov lv cv, .slice ot lt ct] 41) = W1 := ⟨_, rfl⟩
 have HW := Lib.hid hW1
 have HB1 := Lib.hid (show Below w.heap.size w W1 from by rw [← hW1]; exact Below.one w _)
 have HX1 := Lib.hid (show BoxL W1 w.heap.size 41 [.int .i64 10, .int .i64 n, .slice ov lv cv, .slice ot lt ct] from by rw [← hW1]; exact BoxL.new rfl _ _)
 have HC1 := Lib.hid (hc.keep HB1.out)
 clear hW1 hs
 cases h : decide (0 ≤ n) with
 | false =>
  simp only [Bool.false_and]
  have x0 := HX1.out.cell 0 rfl
  have x1 := HX1.out.cell 1 rfl
  have xl := HX1.out.lt
  have y3 := HC1.out.cell 3 rfl
  have yl := HC1.out.lt
  go_enter Tryz.func115, Tryz.ntmps115
  go_upto_region 1 with fail
  rw [HW.out]
  go_wp2_with fail
  go_ret
  exact ⟨rfl, HB1.out⟩
 | true =>
  simp only [Bool.true_and]
  have x0 := HX1.out.cell 0 rfl
  have x1 := HX1.out.cell 1 rfl
  have xl := HX1.out.lt
  have y3 := HC1.out.cell 3 rfl
  have yl := HC1.out.lt
  go_enter Tryz.func115, Tryz.ntmps115
  go_upto_region 1 with fail
  rw [HW.out]
  go_wp2_with fail
  go_ret
  exact ⟨rfl, HB1.out⟩
theorem rnumber_11 (cb : Nat) (nc nk size : Int) (fr ok : Bool) (bsl : Value) (n : Int) (ov ot : Option Addr) (lv cv lt ct : Nat) (l : List Int) (sl : Value) (B : Nat) (w : World) (hc : BoxL w cb 114 [.int .i64 3, .int .i64 nc, .int .i64 nk, .bool fr, .int .i64 size, bsl, .bool ok]) (hs : SlC w B 1 IntR l sl) (_hB : B ≤ w.heap.size) :
  Calls Tryz.prog 115 #[.pointer (some ⟨cb, 0, none⟩), .agg #[.int .i64 11, .int .i64 n, .slice ov lv cv, .slice ot lt ct], sl] w fun e w' => e = .returned (.bool (Trm.numberB nc nk fr (fun v => l.contains v) 11 n)) ∧ Below w.heap.size w w' := by
 obtain ⟨os, ls, cs, rfl⟩ := hs.form
 rw [show Trm.numberB nc nk fr (fun v => l.contains v) 11 n = (decide (0 ≤ n) && decide (n < 31)) from rfl]
 have g : decide (n ≤ 30) = decide (n < 31) := by rw [decide_eq_decide]; omega
 obtain ⟨W1, hW1⟩ : ∃ W1, w.alloc (.cells #[.int .i64 11, .int .i64 n, .slice ov lv cv, .slice ot lt ct] 41) = W1 := ⟨_, rfl⟩
 have HW := Lib.hid hW1
 have HB1 := Lib.hid (show Below w.heap.size w W1 from by rw [← hW1]; exact Below.one w _)
 have HX1 := Lib.hid (show BoxL W1 w.heap.size 41 [.int .i64 11, .int .i64 n, .slice ov lv cv, .slice ot lt ct] from by rw [← hW1]; exact BoxL.new rfl _ _)
 have HC1 := Lib.hid (hc.keep HB1.out)
 clear hW1 hs
 cases h : decide (0 ≤ n) with
 | false =>
  simp only [Bool.false_and]
  have x0 := HX1.out.cell 0 rfl
  have x1 := HX1.out.cell 1 rfl
  have xl := HX1.out.lt
  have y3 := HC1.out.cell 3 rfl
  have yl := HC1.out.lt
  go_enter Tryz.func115, Tryz.ntmps115
  go_upto_region 1 with fail
  rw [HW.out]
  go_wp2_with fail
  go_ret
  exact ⟨rfl, HB1.out⟩
 | true =>
  simp only [Bool.true_and]
  have x0 := HX1.out.cell 0 rfl
  have x1 := HX1.out.cell 1 rfl
  have xl := HX1.out.lt
  have y3 := HC1.out.cell 3 rfl
  have yl := HC1.out.lt
  go_enter Tryz.func115, Tryz.ntmps115
  go_upto_region 1 with fail
  rw [HW.out]
  go_wp2_with fail
  go_ret
  exact ⟨rfl, HB1.out⟩
theorem rnumber_12 (cb : Nat) (nc nk size : Int) (fr ok : Bool) (bsl : Value) (n : Int) (ov ot : Option Addr) (lv cv lt ct : Nat) (l : List Int) (sl : Value) (B : Nat) (w : World) (hc : BoxL w cb 114 [.int .i64 3, .int .i64 nc, .int .i64 nk, .bool fr, .int .i64 size, bsl, .bool ok]) (hs : SlC w B 1 IntR l sl) (_hB : B ≤ w.heap.size) :
  Calls Tryz.prog 115 #[.pointer (some ⟨cb, 0, none⟩), .agg #[.int .i64 12, .int .i64 n, .slice ov lv cv, .slice ot lt ct], sl] w fun e w' => e = .returned (.bool (Trm.numberB nc nk fr (fun v => l.contains v) 12 n)) ∧ Below w.heap.size w w' := by
 obtain ⟨os, ls, cs, rfl⟩ := hs.form
 rw [show Trm.numberB nc nk fr (fun v => l.contains v) 12 n = decide (n = 0) from rfl]
 have g : (n == 0) = decide (n = 0) := by rw [Bool.eq_iff_iff]; simp
 obtain ⟨W1, hW1⟩ : ∃ W1, w.alloc (.cells #[.int .i64 12, .int .i64 n, .slice ov lv cv, .slice ot lt ct] 41) = W1 := ⟨_, rfl⟩
 have HW := Lib.hid hW1
 have HB1 := Lib.hid (show Below w.heap.size w W1 from by rw [← hW1]; exact Below.one w _)
 have HX1 := Lib.hid (show BoxL W1 w.heap.size 41 [.int .i64 12, .int .i64 n, .slice ov lv cv, .slice ot lt ct] from by rw [← hW1]; exact BoxL.new rfl _ _)
 have HC1 := Lib.hid (hc.keep HB1.out)
 clear hW1 hs
 have x0 := HX1.out.cell 0 rfl
 have x1 := HX1.out.cell 1 rfl
 have xl := HX1.out.lt
 have y3 := HC1.out.cell 3 rfl
 have yl := HC1.out.lt
 go_enter Tryz.func115, Tryz.ntmps115
 go_upto_region 1 with fail
 rw [HW.out]
 go_wp2_with fail
 go_ret
 exact ⟨rfl, HB1.out⟩
theorem rnumber_13 (cb : Nat) (nc nk size : Int) (fr ok : Bool) (bsl : Value) (n : Int) (ov ot : Option Addr) (lv cv lt ct : Nat) (l : List Int) (sl : Value) (B : Nat) (w : World) (hc : BoxL w cb 114 [.int .i64 3, .int .i64 nc, .int .i64 nk, .bool fr, .int .i64 size, bsl, .bool ok]) (hs : SlC w B 1 IntR l sl) (_hB : B ≤ w.heap.size) :
  Calls Tryz.prog 115 #[.pointer (some ⟨cb, 0, none⟩), .agg #[.int .i64 13, .int .i64 n, .slice ov lv cv, .slice ot lt ct], sl] w fun e w' => e = .returned (.bool (Trm.numberB nc nk fr (fun v => l.contains v) 13 n)) ∧ Below w.heap.size w w' := by
 obtain ⟨os, ls, cs, rfl⟩ := hs.form
 rw [show Trm.numberB nc nk fr (fun v => l.contains v) 13 n = decide (n = 0) from rfl]
 have g : (n == 0) = decide (n = 0) := by rw [Bool.eq_iff_iff]; simp
 obtain ⟨W1, hW1⟩ : ∃ W1, w.alloc (.cells #[.int .i64 13, .int .i64 n, .slice ov lv cv, .slice ot lt ct] 41) = W1 := ⟨_, rfl⟩
 have HW := Lib.hid hW1
 have HB1 := Lib.hid (show Below w.heap.size w W1 from by rw [← hW1]; exact Below.one w _)
 have HX1 := Lib.hid (show BoxL W1 w.heap.size 41 [.int .i64 13, .int .i64 n, .slice ov lv cv, .slice ot lt ct] from by rw [← hW1]; exact BoxL.new rfl _ _)
 have HC1 := Lib.hid (hc.keep HB1.out)
 clear hW1 hs
 have x0 := HX1.out.cell 0 rfl
 have x1 := HX1.out.cell 1 rfl
 have xl := HX1.out.lt
 have y3 := HC1.out.cell 3 rfl
 have yl := HC1.out.lt
 go_enter Tryz.func115, Tryz.ntmps115
 go_upto_region 1 with fail
 rw [HW.out]
 go_wp2_with fail
 go_ret
 exact ⟨rfl, HB1.out⟩
theorem rnumber_15 (cb : Nat) (nc nk size : Int) (fr ok : Bool) (bsl : Value) (n : Int) (ov ot : Option Addr) (lv cv lt ct : Nat) (l : List Int) (sl : Value) (B : Nat) (w : World) (hc : BoxL w cb 114 [.int .i64 3, .int .i64 nc, .int .i64 nk, .bool fr, .int .i64 size, bsl, .bool ok]) (hs : SlC w B 1 IntR l sl) (_hB : B ≤ w.heap.size) :
  Calls Tryz.prog 115 #[.pointer (some ⟨cb, 0, none⟩), .agg #[.int .i64 15, .int .i64 n, .slice ov lv cv, .slice ot lt ct], sl] w fun e w' => e = .returned (.bool (Trm.numberB nc nk fr (fun v => l.contains v) 15 n)) ∧ Below w.heap.size w w' := by
 obtain ⟨os, ls, cs, rfl⟩ := hs.form
 rw [show Trm.numberB nc nk fr (fun v => l.contains v) 15 n = decide (n = 0) from rfl]
 have g : (n == 0) = decide (n = 0) := by rw [Bool.eq_iff_iff]; simp
 obtain ⟨W1, hW1⟩ : ∃ W1, w.alloc (.cells #[.int .i64 15, .int .i64 n, .slice ov lv cv, .slice ot lt ct] 41) = W1 := ⟨_, rfl⟩
 have HW := Lib.hid hW1
 have HB1 := Lib.hid (show Below w.heap.size w W1 from by rw [← hW1]; exact Below.one w _)
 have HX1 := Lib.hid (show BoxL W1 w.heap.size 41 [.int .i64 15, .int .i64 n, .slice ov lv cv, .slice ot lt ct] from by rw [← hW1]; exact BoxL.new rfl _ _)
 have HC1 := Lib.hid (hc.keep HB1.out)
 clear hW1 hs
 have x0 := HX1.out.cell 0 rfl
 have x1 := HX1.out.cell 1 rfl
 have xl := HX1.out.lt
 have y3 := HC1.out.cell 3 rfl
 have yl := HC1.out.lt
 go_enter Tryz.func115, Tryz.ntmps115
 go_upto_region 1 with fail
 rw [HW.out]
 go_wp2_with fail
 go_ret
 exact ⟨rfl, HB1.out⟩
theorem rnumber_16 (cb : Nat) (nc nk size : Int) (fr ok : Bool) (bsl : Value) (n : Int) (ov ot : Option Addr) (lv cv lt ct : Nat) (l : List Int) (sl : Value) (B : Nat) (w : World) (hc : BoxL w cb 114 [.int .i64 3, .int .i64 nc, .int .i64 nk, .bool fr, .int .i64 size, bsl, .bool ok]) (hs : SlC w B 1 IntR l sl) (_hB : B ≤ w.heap.size) :
  Calls Tryz.prog 115 #[.pointer (some ⟨cb, 0, none⟩), .agg #[.int .i64 16, .int .i64 n, .slice ov lv cv, .slice ot lt ct], sl] w fun e w' => e = .returned (.bool (Trm.numberB nc nk fr (fun v => l.contains v) 16 n)) ∧ Below w.heap.size w w' := by
 obtain ⟨os, ls, cs, rfl⟩ := hs.form
 rw [show Trm.numberB nc nk fr (fun v => l.contains v) 16 n = decide (n = 0) from rfl]
 have g : (n == 0) = decide (n = 0) := by rw [Bool.eq_iff_iff]; simp
 obtain ⟨W1, hW1⟩ : ∃ W1, w.alloc (.cells #[.int .i64 16, .int .i64 n, .slice ov lv cv, .slice ot lt ct] 41) = W1 := ⟨_, rfl⟩
 have HW := Lib.hid hW1
 have HB1 := Lib.hid (show Below w.heap.size w W1 from by rw [← hW1]; exact Below.one w _)
 have HX1 := Lib.hid (show BoxL W1 w.heap.size 41 [.int .i64 16, .int .i64 n, .slice ov lv cv, .slice ot lt ct] from by rw [← hW1]; exact BoxL.new rfl _ _)
 have HC1 := Lib.hid (hc.keep HB1.out)
 clear hW1 hs
 have x0 := HX1.out.cell 0 rfl
 have x1 := HX1.out.cell 1 rfl
 have xl := HX1.out.lt
 have y3 := HC1.out.cell 3 rfl
 have yl := HC1.out.lt
 go_enter Tryz.func115, Tryz.ntmps115
 go_upto_region 1 with fail
 rw [HW.out]
 go_wp2_with fail
 go_ret
 exact ⟨rfl, HB1.out⟩
theorem rnumber_17 (cb : Nat) (nc nk size : Int) (fr ok : Bool) (bsl : Value) (n : Int) (ov ot : Option Addr) (lv cv lt ct : Nat) (l : List Int) (sl : Value) (B : Nat) (w : World) (hc : BoxL w cb 114 [.int .i64 3, .int .i64 nc, .int .i64 nk, .bool fr, .int .i64 size, bsl, .bool ok]) (hs : SlC w B 1 IntR l sl) (_hB : B ≤ w.heap.size) :
  Calls Tryz.prog 115 #[.pointer (some ⟨cb, 0, none⟩), .agg #[.int .i64 17, .int .i64 n, .slice ov lv cv, .slice ot lt ct], sl] w fun e w' => e = .returned (.bool (Trm.numberB nc nk fr (fun v => l.contains v) 17 n)) ∧ Below w.heap.size w w' := by
 obtain ⟨os, ls, cs, rfl⟩ := hs.form
 rw [show Trm.numberB nc nk fr (fun v => l.contains v) 17 n = decide (n = 0) from rfl]
 have g : (n == 0) = decide (n = 0) := by rw [Bool.eq_iff_iff]; simp
 obtain ⟨W1, hW1⟩ : ∃ W1, w.alloc (.cells #[.int .i64 17, .int .i64 n, .slice ov lv cv, .slice ot lt ct] 41) = W1 := ⟨_, rfl⟩
 have HW := Lib.hid hW1
 have HB1 := Lib.hid (show Below w.heap.size w W1 from by rw [← hW1]; exact Below.one w _)
 have HX1 := Lib.hid (show BoxL W1 w.heap.size 41 [.int .i64 17, .int .i64 n, .slice ov lv cv, .slice ot lt ct] from by rw [← hW1]; exact BoxL.new rfl _ _)
 have HC1 := Lib.hid (hc.keep HB1.out)
 clear hW1 hs
 have x0 := HX1.out.cell 0 rfl
 have x1 := HX1.out.cell 1 rfl
 have xl := HX1.out.lt
 have y3 := HC1.out.cell 3 rfl
 have yl := HC1.out.lt
 go_enter Tryz.func115, Tryz.ntmps115
 go_upto_region 1 with fail
 rw [HW.out]
 go_wp2_with fail
 go_ret
 exact ⟨rfl, HB1.out⟩
theorem rnumber_18 (cb : Nat) (nc nk size : Int) (fr ok : Bool) (bsl : Value) (n : Int) (ov ot : Option Addr) (lv cv lt ct : Nat) (l : List Int) (sl : Value) (B : Nat) (w : World) (hc : BoxL w cb 114 [.int .i64 3, .int .i64 nc, .int .i64 nk, .bool fr, .int .i64 size, bsl, .bool ok]) (hs : SlC w B 1 IntR l sl) (_hB : B ≤ w.heap.size) :
  Calls Tryz.prog 115 #[.pointer (some ⟨cb, 0, none⟩), .agg #[.int .i64 18, .int .i64 n, .slice ov lv cv, .slice ot lt ct], sl] w fun e w' => e = .returned (.bool (Trm.numberB nc nk fr (fun v => l.contains v) 18 n)) ∧ Below w.heap.size w w' := by
 obtain ⟨os, ls, cs, rfl⟩ := hs.form
 rw [show Trm.numberB nc nk fr (fun v => l.contains v) 18 n = decide (n = 0) from rfl]
 have g : (n == 0) = decide (n = 0) := by rw [Bool.eq_iff_iff]; simp
 obtain ⟨W1, hW1⟩ : ∃ W1, w.alloc (.cells #[.int .i64 18, .int .i64 n, .slice ov lv cv, .slice ot lt ct] 41) = W1 := ⟨_, rfl⟩
 have HW := Lib.hid hW1
 have HB1 := Lib.hid (show Below w.heap.size w W1 from by rw [← hW1]; exact Below.one w _)
 have HX1 := Lib.hid (show BoxL W1 w.heap.size 41 [.int .i64 18, .int .i64 n, .slice ov lv cv, .slice ot lt ct] from by rw [← hW1]; exact BoxL.new rfl _ _)
 have HC1 := Lib.hid (hc.keep HB1.out)
 clear hW1 hs
 have x0 := HX1.out.cell 0 rfl
 have x1 := HX1.out.cell 1 rfl
 have xl := HX1.out.lt
 have y3 := HC1.out.cell 3 rfl
 have yl := HC1.out.lt
 go_enter Tryz.func115, Tryz.ntmps115
 go_upto_region 1 with fail
 rw [HW.out]
 go_wp2_with fail
 go_ret
 exact ⟨rfl, HB1.out⟩
theorem rnumber_19 (cb : Nat) (nc nk size : Int) (fr ok : Bool) (bsl : Value) (n : Int) (ov ot : Option Addr) (lv cv lt ct : Nat) (l : List Int) (sl : Value) (B : Nat) (w : World) (hc : BoxL w cb 114 [.int .i64 3, .int .i64 nc, .int .i64 nk, .bool fr, .int .i64 size, bsl, .bool ok]) (hs : SlC w B 1 IntR l sl) (_hB : B ≤ w.heap.size) :
  Calls Tryz.prog 115 #[.pointer (some ⟨cb, 0, none⟩), .agg #[.int .i64 19, .int .i64 n, .slice ov lv cv, .slice ot lt ct], sl] w fun e w' => e = .returned (.bool (Trm.numberB nc nk fr (fun v => l.contains v) 19 n)) ∧ Below w.heap.size w w' := by
 obtain ⟨os, ls, cs, rfl⟩ := hs.form
 rw [show Trm.numberB nc nk fr (fun v => l.contains v) 19 n = (decide (0 ≤ n) && decide (n < nk)) from rfl]
 obtain ⟨W1, hW1⟩ : ∃ W1, w.alloc (.cells #[.int .i64 19, .int .i64 n, .slice ov lv cv, .slice ot lt ct] 41) = W1 := ⟨_, rfl⟩
 have HW := Lib.hid hW1
 have HB1 := Lib.hid (show Below w.heap.size w W1 from by rw [← hW1]; exact Below.one w _)
 have HX1 := Lib.hid (show BoxL W1 w.heap.size 41 [.int .i64 19, .int .i64 n, .slice ov lv cv, .slice ot lt ct] from by rw [← hW1]; exact BoxL.new rfl _ _)
 have HC1 := Lib.hid (hc.keep HB1.out)
 clear hW1 hs
 have HD := Lib.hid ((Below.refl W1.heap.size W1).drew)
 cases h : decide (0 ≤ n) with
 | false =>
  have x0 := HX1.out.cell 0 rfl
  have x1 := HX1.out.cell 1 rfl
  have xl := HX1.out.lt
  go_enter Tryz.func115, Tryz.ntmps115
  go_upto_region 1 with fail
  rw [HW.out]
  go_upto_region 18 with fail
  clear x0 x1 xl
  refine wp_region_quiet_all (Below W1.heap.size W1) (by kernel_rfl) (by kernel_rfl) HD.out ?_
  intro T0 _ WW HWW HWW2
  have y1 : ∀ t, (WW t).cell? _ = _ := fun t => ((HWW t).cell (p := ⟨w.heap.size, 1, none⟩) HX1.out.lt).trans (HX1.out.cell 1 rfl)
  have HWH := Lib.hid HWW
  clear HWW HWW2
  repeat (go_big_quiet_step (fail))
  refine wpQuiet_nil ?_
  intro t'
  have HF := Lib.hid (HB1.out.trans ((HWH.out t').mono HB1.out.size))
  clear y1 HWH
  go_wp2_with fail
  go_ret
  exact ⟨rfl, HF.out⟩
 | true =>
  have x0 := HX1.out.cell 0 rfl
  have x1 := HX1.out.cell 1 rfl
  have xl := HX1.out.lt
  go_enter Tryz.func115, Tryz.ntmps115
  go_upto_region 1 with fail
  rw [HW.out]
  go_upto_region 18 with fail
  clear x0 x1 xl
  refine wp_region_quiet_all (Below W1.heap.size W1) (by kernel_rfl) (by kernel_rfl) HD.out ?_
  intro T0 _ WW HWW HWW2
  have y1 : ∀ t, (WW t).cell? _ = _ := fun t => ((HWW t).cell (p := ⟨w.heap.size, 1, none⟩) HX1.out.lt).trans (HX1.out.cell 1 rfl)
  have z1 : ∀ t, (WW t).cell? _ = _ := fun t => ((HWW t).cell (p := ⟨cb, 2, none⟩) HC1.out.lt).trans (HC1.out.cell 2 rfl)
  have HWH := Lib.hid HWW
  clear HWW HWW2
  repeat (go_big_quiet_step (fail))
  refine wpQuiet_nil ?_
  intro t'
  have HF := Lib.hid (HB1.out.trans ((HWH.out t').mono HB1.out.size))
  clear y1 z1 HWH
  go_wp2_with fail
  go_ret
  exact ⟨rfl, HF.out⟩
theorem rnumber_20 (cb : Nat) (nc nk size : Int) (fr ok : Bool) (bsl : Value) (n : Int) (ov ot : Option Addr) (lv cv lt ct : Nat) (l : List Int) (sl : Value) (B : Nat) (w : World) (hc : BoxL w cb 114 [.int .i64 3, .int .i64 nc, .int .i64 nk, .bool fr, .int .i64 size, bsl, .bool ok]) (hs : SlC w B 1 IntR l sl) (_hB : B ≤ w.heap.size) :
  Calls Tryz.prog 115 #[.pointer (some ⟨cb, 0, none⟩), .agg #[.int .i64 20, .int .i64 n, .slice ov lv cv, .slice ot lt ct], sl] w fun e w' => e = .returned (.bool (Trm.numberB nc nk fr (fun v => l.contains v) 20 n)) ∧ Below w.heap.size w w' := by
 obtain ⟨os, ls, cs, rfl⟩ := hs.form
 rw [show Trm.numberB nc nk fr (fun v => l.contains v) 20 n = (decide (0 ≤ n) && fr) from rfl]
 obtain ⟨W1, hW1⟩ : ∃ W1, w.alloc (.cells #[.int .i64 20, .int .i64 n, .slice ov lv cv, .slice ot lt ct] 41) = W1 := ⟨_, rfl⟩
 have HW := Lib.hid hW1
 have HB1 := Lib.hid (show Below w.heap.size w W1 from by rw [← hW1]; exact Below.one w _)
 have HX1 := Lib.hid (show BoxL W1 w.heap.size 41 [.int .i64 20, .int .i64 n, .slice ov lv cv, .slice ot lt ct] from by rw [← hW1]; exact BoxL.new rfl _ _)
 have HC1 := Lib.hid (hc.keep HB1.out)
 clear hW1 hs
 cases h : decide (0 ≤ n) with
 | false =>
  simp only [Bool.false_and]
  have x0 := HX1.out.cell 0 rfl
  have x1 := HX1.out.cell 1 rfl
  have xl := HX1.out.lt
  have y3 := HC1.out.cell 3 rfl
  have yl := HC1.out.lt
  go_enter Tryz.func115, Tryz.ntmps115
  go_upto_region 1 with fail
  rw [HW.out]
  go_wp2_with fail
  go_ret
  exact ⟨rfl, HB1.out⟩
 | true =>
  simp only [Bool.true_and]
  have x0 := HX1.out.cell 0 rfl
  have x1 := HX1.out.cell 1 rfl
  have xl := HX1.out.lt
  have y3 := HC1.out.cell 3 rfl
  have yl := HC1.out.lt
  go_enter Tryz.func115, Tryz.ntmps115
  go_upto_region 1 with fail
  rw [HW.out]
  go_wp2_with fail
  go_ret
  exact ⟨rfl, HB1.out⟩
theorem rnumber_21 (cb : Nat) (nc nk size : Int) (fr ok : Bool) (bsl : Value) (n : Int) (ov ot : Option Addr) (lv cv lt ct : Nat) (l : List Int) (sl : Value) (B : Nat) (w : World) (hc : BoxL w cb 114 [.int .i64 3, .int .i64 nc, .int .i64 nk, .bool fr, .int .i64 size, bsl, .bool ok]) (hs : SlC w B 1 IntR l sl) (_hB : B ≤ w.heap.size) :
  Calls Tryz.prog 115 #[.pointer (some ⟨cb, 0, none⟩), .agg #[.int .i64 21, .int .i64 n, .slice ov lv cv, .slice ot lt ct], sl] w fun e w' => e = .returned (.bool (Trm.numberB nc nk fr (fun v => l.contains v) 21 n)) ∧ Below w.heap.size w w' := by
 obtain ⟨os, ls, cs, rfl⟩ := hs.form
 rw [show Trm.numberB nc nk fr (fun v => l.contains v) 21 n = (decide (0 ≤ n) && decide (n < nk)) from rfl]
 obtain ⟨W1, hW1⟩ : ∃ W1, w.alloc (.cells #[.int .i64 21, .int .i64 n, .slice ov lv cv, .slice ot lt ct] 41) = W1 := ⟨_, rfl⟩
 have HW := Lib.hid hW1
 have HB1 := Lib.hid (show Below w.heap.size w W1 from by rw [← hW1]; exact Below.one w _)
 have HX1 := Lib.hid (show BoxL W1 w.heap.size 41 [.int .i64 21, .int .i64 n, .slice ov lv cv, .slice ot lt ct] from by rw [← hW1]; exact BoxL.new rfl _ _)
 have HC1 := Lib.hid (hc.keep HB1.out)
 clear hW1 hs
 have HD := Lib.hid ((Below.refl W1.heap.size W1).drew)
 cases h : decide (0 ≤ n) with
 | false =>
  have x0 := HX1.out.cell 0 rfl
  have x1 := HX1.out.cell 1 rfl
  have xl := HX1.out.lt
  go_enter Tryz.func115, Tryz.ntmps115
  go_upto_region 1 with fail
  rw [HW.out]
  go_upto_region 18 with fail
  clear x0 x1 xl
  refine wp_region_quiet_all (Below W1.heap.size W1) (by kernel_rfl) (by kernel_rfl) HD.out ?_
  intro T0 _ WW HWW HWW2
  have y1 : ∀ t, (WW t).cell? _ = _ := fun t => ((HWW t).cell (p := ⟨w.heap.size, 1, none⟩) HX1.out.lt).trans (HX1.out.cell 1 rfl)
  have HWH := Lib.hid HWW
  clear HWW HWW2
  repeat (go_big_quiet_step (fail))
  refine wpQuiet_nil ?_
  intro t'
  have HF := Lib.hid (HB1.out.trans ((HWH.out t').mono HB1.out.size))
  clear y1 HWH
  go_wp2_with fail
  go_ret
  exact ⟨rfl, HF.out⟩
 | true =>
  have x0 := HX1.out.cell 0 rfl
  have x1 := HX1.out.cell 1 rfl
  have xl := HX1.out.lt
  go_enter Tryz.func115, Tryz.ntmps115
  go_upto_region 1 with fail
  rw [HW.out]
  go_upto_region 18 with fail
  clear x0 x1 xl
  refine wp_region_quiet_all (Below W1.heap.size W1) (by kernel_rfl) (by kernel_rfl) HD.out ?_
  intro T0 _ WW HWW HWW2
  have y1 : ∀ t, (WW t).cell? _ = _ := fun t => ((HWW t).cell (p := ⟨w.heap.size, 1, none⟩) HX1.out.lt).trans (HX1.out.cell 1 rfl)
  have z1 : ∀ t, (WW t).cell? _ = _ := fun t => ((HWW t).cell (p := ⟨cb, 2, none⟩) HC1.out.lt).trans (HC1.out.cell 2 rfl)
  have HWH := Lib.hid HWW
  clear HWW HWW2
  repeat (go_big_quiet_step (fail))
  refine wpQuiet_nil ?_
  intro t'
  have HF := Lib.hid (HB1.out.trans ((HWH.out t').mono HB1.out.size))
  clear y1 z1 HWH
  go_wp2_with fail
  go_ret
  exact ⟨rfl, HF.out⟩
theorem rnumber_22 (cb : Nat) (nc nk size : Int) (fr ok : Bool) (bsl : Value) (n : Int) (ov ot : Option Addr) (lv cv lt ct : Nat) (l : List Int) (sl : Value) (B : Nat) (w : World) (hc : BoxL w cb 114 [.int .i64 3, .int .i64 nc, .int .i64 nk, .bool fr, .int .i64 size, bsl, .bool ok]) (hs : SlC w B 1 IntR l sl) (_hB : B ≤ w.heap.size) :
  Calls Tryz.prog 115 #[.pointer (some ⟨cb, 0, none⟩), .agg #[.int .i64 22, .int .i64 n, .slice ov lv cv, .slice ot lt ct], sl] w fun e w' => e = .returned (.bool (Trm.numberB nc nk fr (fun v => l.contains v) 22 n)) ∧ Below w.heap.size w w' := by
 obtain ⟨os, ls, cs, rfl⟩ := hs.form
 rw [show Trm.numberB nc nk fr (fun v => l.contains v) 22 n = (decide (0 ≤ n) && decide (n < nk)) from rfl]
 obtain ⟨W1, hW1⟩ : ∃ W1, w.alloc (.cells #[.int .i64 22, .int .i64 n, .slice ov lv cv, .slice ot lt ct] 41) = W1 := ⟨_, rfl⟩
 have HW := Lib.hid hW1
 have HB1 := Lib.hid (show Below w.heap.size w W1 from by rw [← hW1]; exact Below.one w _)
 have HX1 := Lib.hid (show BoxL W1 w.heap.size 41 [.int .i64 22, .int .i64 n, .slice ov lv cv, .slice ot lt ct] from by rw [← hW1]; exact BoxL.new rfl _ _)
 have HC1 := Lib.hid (hc.keep HB1.out)
 clear hW1 hs
 have HD := Lib.hid ((Below.refl W1.heap.size W1).drew)
 cases h : decide (0 ≤ n) with
 | false =>
  have x0 := HX1.out.cell 0 rfl
  have x1 := HX1.out.cell 1 rfl
  have xl := HX1.out.lt
  go_enter Tryz.func115, Tryz.ntmps115
  go_upto_region 1 with fail
  rw [HW.out]
  go_upto_region 18 with fail
  clear x0 x1 xl
  refine wp_region_quiet_all (Below W1.heap.size W1) (by kernel_rfl) (by kernel_rfl) HD.out ?_
  intro T0 _ WW HWW HWW2
  have y1 : ∀ t, (WW t).cell? _ = _ := fun t => ((HWW t).cell (p := ⟨w.heap.size, 1, none⟩) HX1.out.lt).trans (HX1.out.cell 1 rfl)
  have HWH := Lib.hid HWW
  clear HWW HWW2
  repeat (go_big_quiet_step (fail))
  refine wpQuiet_nil ?_
  intro t'
  have HF := Lib.hid (HB1.out.trans ((HWH.out t').mono HB1.out.size))
  clear y1 HWH
  go_wp2_with fail
  go_ret
  exact ⟨rfl, HF.out⟩
 | true =>
  have x0 := HX1.out.cell 0 rfl
  have x1 := HX1.out.cell 1 rfl
  have xl := HX1.out.lt
  go_enter Tryz.func115, Tryz.ntmps115
  go_upto_region 1 with fail
  rw [HW.out]
  go_upto_region 18 with fail
  clear x0 x1 xl
  refine wp_region_quiet_all (Below W1.heap.size W1) (by kernel_rfl) (by kernel_rfl) HD.out ?_
  intro T0 _ WW HWW HWW2
  have y1 : ∀ t, (WW t).cell? _ = _ := fun t => ((HWW t).cell (p := ⟨w.heap.size, 1, none⟩) HX1.out.lt).trans (HX1.out.cell 1 rfl)
  have z1 : ∀ t, (WW t).cell? _ = _ := fun t => ((HWW t).cell (p := ⟨cb, 2, none⟩) HC1.out.lt).trans (HC1.out.cell 2 rfl)
  have HWH := Lib.hid HWW
  clear HWW HWW2
  repeat (go_big_quiet_step (fail))
  refine wpQuiet_nil ?_
  intro t'
  have HF := Lib.hid (HB1.out.trans ((HWH.out t').mono HB1.out.size))
  clear y1 z1 HWH
  go_wp2_with fail
  go_ret
  exact ⟨rfl, HF.out⟩
end
end Go.Proofs.YtigkhmppnnljiaaGreatDoor
