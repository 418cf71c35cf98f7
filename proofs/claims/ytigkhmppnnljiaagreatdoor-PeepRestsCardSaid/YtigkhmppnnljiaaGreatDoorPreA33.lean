/-
  What the proofs lean on: RT1, ROk.
-/
import Derived.Test.YtigkhmppnnljiaaGreatDoorPreA25
import Derived.Test.YtigkhmppnnljiaaGreatDoorPreA31
set_option maxRecDepth 100000
set_option maxHeartbeats 16000000
namespace Go.Proofs.YtigkhmppnnljiaaGreatDoor
section
open Go Go.RowKit
theorem rcounts_0 (n : Int) (ov ot : Option Addr) (lv cv lt ct : Nat) (w : World) (hv : lv ≤ 9223372036854775806) : Calls Tryz.prog 114 #[.agg #[.int .i64 0, .int .i64 n, .slice ov lv cv, .slice ot lt ct]] w fun e w' => e = .returned (.bool (Trm.countsB 0 lv lt)) ∧ Below w.heap.size w w' := by
 rw [show Trm.countsB 0 lv lt = (decide (lv = 0) && decide (lt = 0)) from by rw [Bool.eq_iff_iff]; simp [Trm.countsB]]
 have g : ((lt : Int) == 0) = decide (lt = 0) := by rw [Bool.eq_iff_iff]; simp; try omega
 by_cases h : 0 < lv
 ·have h1 : decide ((0 : Int) < (lv : Int)) = true := decide_eq_true (by omega)
  have h2 : decide (0 < lv) = true := decide_eq_true h
  have h3 : (0 : Int) < (lv : Int) := by omega
  rw [decide_eq_false (show ¬ lv = 0 by omega)]
  simp only [Bool.false_and]
  go_enter Tryz.func114, Tryz.ntmps114
  go_wp2_with fail
  all_goals go_ret
  all_goals exact ⟨rfl, Below.one _ _⟩
 ·obtain rfl : lv = 0 := by omega
  simp only [decide_true, Bool.true_and]
  clear h
  go_enter Tryz.func114, Tryz.ntmps114
  go_wp2_with fail
  all_goals go_ret
  all_goals exact ⟨rfl, Below.one _ _⟩
theorem rcounts_1 (n : Int) (ov ot : Option Addr) (lv cv lt ct : Nat) (w : World) (hv : lv ≤ 9223372036854775806) : Calls Tryz.prog 114 #[.agg #[.int .i64 1, .int .i64 n, .slice ov lv cv, .slice ot lt ct]] w fun e w' => e = .returned (.bool (Trm.countsB 1 lv lt)) ∧ Below w.heap.size w w' := by
 rw [show Trm.countsB 1 lv lt = (decide (lv = 0) && decide (lt = 0)) from by rw [Bool.eq_iff_iff]; simp [Trm.countsB]]
 have g : ((lt : Int) == 0) = decide (lt = 0) := by rw [Bool.eq_iff_iff]; simp; try omega
 by_cases h : 0 < lv
 ·have h1 : decide ((0 : Int) < (lv : Int)) = true := decide_eq_true (by omega)
  have h2 : decide (0 < lv) = true := decide_eq_true h
  have h3 : (0 : Int) < (lv : Int) := by omega
  rw [decide_eq_false (show ¬ lv = 0 by omega)]
  simp only [Bool.false_and]
  go_enter Tryz.func114, Tryz.ntmps114
  go_wp2_with fail
  all_goals go_ret
  all_goals exact ⟨rfl, Below.one _ _⟩
 ·obtain rfl : lv = 0 := by omega
  simp only [decide_true, Bool.true_and]
  clear h
  go_enter Tryz.func114, Tryz.ntmps114
  go_wp2_with fail
  all_goals go_ret
  all_goals exact ⟨rfl, Below.one _ _⟩
theorem rcounts_3 (n : Int) (ov ot : Option Addr) (lv cv lt ct : Nat) (w : World) (hv : lv ≤ 9223372036854775806) : Calls Tryz.prog 114 #[.agg #[.int .i64 3, .int .i64 n, .slice ov lv cv, .slice ot lt ct]] w fun e w' => e = .returned (.bool (Trm.countsB 3 lv lt)) ∧ Below w.heap.size w w' := by
 rw [show Trm.countsB 3 lv lt = (decide (lv = 0) && decide (lt = 3)) from by rw [Bool.eq_iff_iff]; simp [Trm.countsB]]
 have g : ((lt : Int) == 3) = decide (lt = 3) := by rw [Bool.eq_iff_iff]; simp; try omega
 by_cases h : 0 < lv
 ·have h1 : decide ((0 : Int) < (lv : Int)) = true := decide_eq_true (by omega)
  have h2 : decide (0 < lv) = true := decide_eq_true h
  have h3 : (0 : Int) < (lv : Int) := by omega
  rw [decide_eq_false (show ¬ lv = 0 by omega)]
  simp only [Bool.false_and]
  go_enter Tryz.func114, Tryz.ntmps114
  go_wp2_with fail
  all_goals go_ret
  all_goals exact ⟨rfl, Below.one _ _⟩
 ·obtain rfl : lv = 0 := by omega
  simp only [decide_true, Bool.true_and]
  clear h
  go_enter Tryz.func114, Tryz.ntmps114
  go_wp2_with fail
  all_goals go_ret
  all_goals exact ⟨rfl, Below.one _ _⟩
theorem rcounts_5 (n : Int) (ov ot : Option Addr) (lv cv lt ct : Nat) (w : World) (hv : lv ≤ 9223372036854775806) : Calls Tryz.prog 114 #[.agg #[.int .i64 5, .int .i64 n, .slice ov lv cv, .slice ot lt ct]] w fun e w' => e = .returned (.bool (Trm.countsB 5 lv lt)) ∧ Below w.heap.size w w' := by
 rw [show Trm.countsB 5 lv lt = (decide (lv = 0) && decide (1 ≤ lt)) from by rw [Bool.eq_iff_iff]; simp [Trm.countsB]]
 have g : decide ((1 : Int) ≤ (lt : Int)) = decide (1 ≤ lt) := by rw [decide_eq_decide]; omega
 by_cases h : 0 < lv
 ·have h1 : decide ((0 : Int) < (lv : Int)) = true := decide_eq_true (by omega)
  have h2 : decide (0 < lv) = true := decide_eq_true h
  have h3 : (0 : Int) < (lv : Int) := by omega
  rw [decide_eq_false (show ¬ lv = 0 by omega)]
  simp only [Bool.false_and]
  go_enter Tryz.func114, Tryz.ntmps114
  go_wp2_with fail
  all_goals go_ret
  all_goals exact ⟨rfl, Below.one _ _⟩
 ·obtain rfl : lv = 0 := by omega
  simp only [decide_true, Bool.true_and]
  clear h
  go_enter Tryz.func114, Tryz.ntmps114
  go_wp2_with fail
  all_goals go_ret
  all_goals exact ⟨rfl, Below.one _ _⟩
theorem rcounts_6 (n : Int) (ov ot : Option Addr) (lv cv lt ct : Nat) (w : World) (hv : lv ≤ 9223372036854775806) : Calls Tryz.prog 114 #[.agg #[.int .i64 6, .int .i64 n, .slice ov lv cv, .slice ot lt ct]] w fun e w' => e = .returned (.bool (Trm.countsB 6 lv lt)) ∧ Below w.heap.size w w' := by
 rw [show Trm.countsB 6 lv lt = (decide (lv = 0) && decide (1 ≤ lt)) from by rw [Bool.eq_iff_iff]; simp [Trm.countsB]]
 have g : decide ((1 : Int) ≤ (lt : Int)) = decide (1 ≤ lt) := by rw [decide_eq_decide]; omega
 by_cases h : 0 < lv
 ·have h1 : decide ((0 : Int) < (lv : Int)) = true := decide_eq_true (by omega)
  have h2 : decide (0 < lv) = true := decide_eq_true h
  have h3 : (0 : Int) < (lv : Int) := by omega
  rw [decide_eq_false (show ¬ lv = 0 by omega)]
  simp only [Bool.false_and]
  go_enter Tryz.func114, Tryz.ntmps114
  go_wp2_with fail
  all_goals go_ret
  all_goals exact ⟨rfl, Below.one _ _⟩
 ·obtain rfl : lv = 0 := by omega
  simp only [decide_true, Bool.true_and]
  clear h
  go_enter Tryz.func114, Tryz.ntmps114
  go_wp2_with fail
  all_goals go_ret
  all_goals exact ⟨rfl, Below.one _ _⟩
theorem rcounts_8 (n : Int) (ov ot : Option Addr) (lv cv lt ct : Nat) (w : World) (hv : lv ≤ 9223372036854775806) : Calls Tryz.prog 114 #[.agg #[.int .i64 8, .int .i64 n, .slice ov lv cv, .slice ot lt ct]] w fun e w' => e = .returned (.bool (Trm.countsB 8 lv lt)) ∧ Below w.heap.size w w' := by
 rw [show Trm.countsB 8 lv lt = decide (lt = lv + 1) from by rw [Bool.eq_iff_iff]; simp [Trm.countsB]]
 have g : ((lt : Int) == (lv : Int) + 1) = decide (lt = lv + 1) := by rw [Bool.eq_iff_iff]; simp; omega
 go_enter Tryz.func114, Tryz.ntmps114
 go_wp2_with fail
 go_ret
 exact ⟨rfl, Below.one _ _⟩
theorem rcounts_9 (n : Int) (ov ot : Option Addr) (lv cv lt ct : Nat) (w : World) (hv : lv ≤ 9223372036854775806) : Calls Tryz.prog 114 #[.agg #[.int .i64 9, .int .i64 n, .slice ov lv cv, .slice ot lt ct]] w fun e w' => e = .returned (.bool (Trm.countsB 9 lv lt)) ∧ Below w.heap.size w w' := by
 rw [show Trm.countsB 9 lv lt = decide (lt = lv + 1) from by rw [Bool.eq_iff_iff]; simp [Trm.countsB]]
 have g : ((lt : Int) == (lv : Int) + 1) = decide (lt = lv + 1) := by rw [Bool.eq_iff_iff]; simp; omega
 go_enter Tryz.func114, Tryz.ntmps114
 go_wp2_with fail
 go_ret
 exact ⟨rfl, Below.one _ _⟩
theorem rcounts_10 (n : Int) (ov ot : Option Addr) (lv cv lt ct : Nat) (w : World) (hv : lv ≤ 9223372036854775806) : Calls Tryz.prog 114 #[.agg #[.int .i64 10, .int .i64 n, .slice ov lv cv, .slice ot lt ct]] w fun e w' => e = .returned (.bool (Trm.countsB 10 lv lt)) ∧ Below w.heap.size w w' := by
 rw [show Trm.countsB 10 lv lt = decide (lv = 0) from by rw [Bool.eq_iff_iff]; simp [Trm.countsB]]
 by_cases h : 0 < lv
 ·have h1 : decide ((0 : Int) < (lv : Int)) = true := decide_eq_true (by omega)
  have h2 : decide (0 < lv) = true := decide_eq_true h
  have h3 : (0 : Int) < (lv : Int) := by omega
  rw [decide_eq_false (show ¬ lv = 0 by omega)]
  skip
  go_enter Tryz.func114, Tryz.ntmps114
  go_wp2_with fail
  all_goals go_ret
  all_goals exact ⟨rfl, Below.one _ _⟩
 ·obtain rfl : lv = 0 := by omega
  simp only [decide_true]
  clear h
  go_enter Tryz.func114, Tryz.ntmps114
  go_wp2_with fail
  all_goals go_ret
  all_goals exact ⟨rfl, Below.one _ _⟩
theorem rcounts_11 (n : Int) (ov ot : Option Addr) (lv cv lt ct : Nat) (w : World) (hv : lv ≤ 9223372036854775806) : Calls Tryz.prog 114 #[.agg #[.int .i64 11, .int .i64 n, .slice ov lv cv, .slice ot lt ct]] w fun e w' => e = .returned (.bool (Trm.countsB 11 lv lt)) ∧ Below w.heap.size w w' := by
 rw [show Trm.countsB 11 lv lt = (decide (lv = 0) && decide (lt = 0)) from by rw [Bool.eq_iff_iff]; simp [Trm.countsB]]
 have g : ((lt : Int) == 0) = decide (lt = 0) := by rw [Bool.eq_iff_iff]; simp; try omega
 by_cases h : 0 < lv
 ·have h1 : decide ((0 : Int) < (lv : Int)) = true := decide_eq_true (by omega)
  have h2 : decide (0 < lv) = true := decide_eq_true h
  have h3 : (0 : Int) < (lv : Int) := by omega
  rw [decide_eq_false (show ¬ lv = 0 by omega)]
  simp only [Bool.false_and]
  go_enter Tryz.func114, Tryz.ntmps114
  go_wp2_with fail
  all_goals go_ret
  all_goals exact ⟨rfl, Below.one _ _⟩
 ·obtain rfl : lv = 0 := by omega
  simp only [decide_true, Bool.true_and]
  clear h
  go_enter Tryz.func114, Tryz.ntmps114
  go_wp2_with fail
  all_goals go_ret
  all_goals exact ⟨rfl, Below.one _ _⟩
theorem rcounts_12 (n : Int) (ov ot : Option Addr) (lv cv lt ct : Nat) (w : World) (hv : lv ≤ 9223372036854775806) : Calls Tryz.prog 114 #[.agg #[.int .i64 12, .int .i64 n, .slice ov lv cv, .slice ot lt ct]] w fun e w' => e = .returned (.bool (Trm.countsB 12 lv lt)) ∧ Below w.heap.size w w' := by
 rw [show Trm.countsB 12 lv lt = (decide (lv = 0) && decide (lt = 1)) from by rw [Bool.eq_iff_iff]; simp [Trm.countsB]]
 have g : ((lt : Int) == 1) = decide (lt = 1) := by rw [Bool.eq_iff_iff]; simp; try omega
 by_cases h : 0 < lv
 ·have h1 : decide ((0 : Int) < (lv : Int)) = true := decide_eq_true (by omega)
  have h2 : decide (0 < lv) = true := decide_eq_true h
  have h3 : (0 : Int) < (lv : Int) := by omega
  rw [decide_eq_false (show ¬ lv = 0 by omega)]
  simp only [Bool.false_and]
  go_enter Tryz.func114, Tryz.ntmps114
  go_wp2_with fail
  all_goals go_ret
  all_goals exact ⟨rfl, Below.one _ _⟩
 ·obtain rfl : lv = 0 := by omega
  simp only [decide_true, Bool.true_and]
  clear h
  go_enter Tryz.func114, Tryz.ntmps114
  go_wp2_with fail
  all_goals go_ret
  all_goals exact ⟨rfl, Below.one _ _⟩
theorem rcounts_13 (n : Int) (ov ot : Option Addr) (lv cv lt ct : Nat) (w : World) (hv : lv ≤ 9223372036854775806) : Calls Tryz.prog 114 #[.agg #[.int .i64 13, .int .i64 n, .slice ov lv cv, .slice ot lt ct]] w fun e w' => e = .returned (.bool (Trm.countsB 13 lv lt)) ∧ Below w.heap.size w w' := by
 rw [show Trm.countsB 13 lv lt = (decide (lv = 0) && decide (lt = 0)) from by rw [Bool.eq_iff_iff]; simp [Trm.countsB]]
 have g : ((lt : Int) == 0) = decide (lt = 0) := by rw [Bool.eq_iff_iff]; simp; try omega
 by_cases h : 0 < lv
 ·have h1 : decide ((0 : Int) < (lv : Int)) = true := decide_eq_true (by omega)
  have h2 : decide (0 < lv) = true := decide_eq_true h
  have h3 : (0 : Int) < (lv : Int) := by omega
  rw [decide_eq_false (show ¬ lv = 0 by omega)]
  simp only [Bool.false_and]
  go_enter Tryz.func114, Tryz.ntmps114
  go_wp2_with fail
  all_goals go_ret
  all_goals exact ⟨rfl, Below.one _ _⟩
 ·obtain rfl : lv = 0 := by omega
  simp only [decide_true, Bool.true_and]
  clear h
  go_enter Tryz.func114, Tryz.ntmps114
  go_wp2_with fail
  all_goals go_ret
  all_goals exact ⟨rfl, Below.one _ _⟩
theorem rcounts_15 (n : Int) (ov ot : Option Addr) (lv cv lt ct : Nat) (w : World) (hv : lv ≤ 9223372036854775806) : Calls Tryz.prog 114 #[.agg #[.int .i64 15, .int .i64 n, .slice ov lv cv, .slice ot lt ct]] w fun e w' => e = .returned (.bool (Trm.countsB 15 lv lt)) ∧ Below w.heap.size w w' := by
 rw [show Trm.countsB 15 lv lt = (decide (lv = 0) && decide (lt = 1)) from by rw [Bool.eq_iff_iff]; simp [Trm.countsB]]
 have g : ((lt : Int) == 1) = decide (lt = 1) := by rw [Bool.eq_iff_iff]; simp; try omega
 by_cases h : 0 < lv
 ·have h1 : decide ((0 : Int) < (lv : Int)) = true := decide_eq_true (by omega)
  have h2 : decide (0 < lv) = true := decide_eq_true h
  have h3 : (0 : Int) < (lv : Int) := by omega
  rw [decide_eq_false (show ¬ lv = 0 by omega)]
  simp only [Bool.false_and]
  go_enter Tryz.func114, Tryz.ntmps114
  go_wp2_with fail
  all_goals go_ret
  all_goals exact ⟨rfl, Below.one _ _⟩
 ·obtain rfl : lv = 0 := by omega
  simp only [decide_true, Bool.true_and]
  clear h
  go_enter Tryz.func114, Tryz.ntmps114
  go_wp2_with fail
  all_goals go_ret
  all_goals exact ⟨rfl, Below.one _ _⟩
theorem rcounts_16 (n : Int) (ov ot : Option Addr) (lv cv lt ct : Nat) (w : World) (hv : lv ≤ 9223372036854775806) : Calls Tryz.prog 114 #[.agg #[.int .i64 16, .int .i64 n, .slice ov lv cv, .slice ot lt ct]] w fun e w' => e = .returned (.bool (Trm.countsB 16 lv lt)) ∧ Below w.heap.size w w' := by
 rw [show Trm.countsB 16 lv lt = (decide (lv = 0) && decide (lt = 1)) from by rw [Bool.eq_iff_iff]; simp [Trm.countsB]]
 have g : ((lt : Int) == 1) = decide (lt = 1) := by rw [Bool.eq_iff_iff]; simp; try omega
 by_cases h : 0 < lv
 ·have h1 : decide ((0 : Int) < (lv : Int)) = true := decide_eq_true (by omega)
  have h2 : decide (0 < lv) = true := decide_eq_true h
  have h3 : (0 : Int) < (lv : Int) := by omega
  rw [decide_eq_false (show ¬ lv = 0 by omega)]
  simp only [Bool.false_and]
  go_enter Tryz.func114, Tryz.ntmps114
  go_wp2_with fail
  all_goals go_ret
  all_goals exact ⟨rfl, Below.one _ _⟩
 ·obtain rfl : lv = 0 := by omega
  simp only [decide_true, Bool.true_and]
  clear h
  go_enter Tryz.func114, Tryz.ntmps114
  go_wp2_with fail
  all_goals go_ret
  all_goals exact ⟨rfl, Below.one _ _⟩
theorem rcounts_17 (n : Int) (ov ot : Option Addr) (lv cv lt ct : Nat) (w : World) (hv : lv ≤ 9223372036854775806) : Calls Tryz.prog 114 #[.agg #[.int .i64 17, .int .i64 n, .slice ov lv cv, .slice ot lt ct]] w fun e w' => e = .returned (.bool (Trm.countsB 17 lv lt)) ∧ Below w.heap.size w w' := by
 rw [show Trm.countsB 17 lv lt = (decide (lv = 0) && decide (lt = 2)) from by rw [Bool.eq_iff_iff]; simp [Trm.countsB]]
 have g : ((lt : Int) == 2) = decide (lt = 2) := by rw [Bool.eq_iff_iff]; simp; try omega
 by_cases h : 0 < lv
 ·have h1 : decide ((0 : Int) < (lv : Int)) = true := decide_eq_true (by omega)
  have h2 : decide (0 < lv) = true := decide_eq_true h
  have h3 : (0 : Int) < (lv : Int) := by omega
  rw [decide_eq_false (show ¬ lv = 0 by omega)]
  simp only [Bool.false_and]
  go_enter Tryz.func114, Tryz.ntmps114
  go_wp2_with fail
  all_goals go_ret
  all_goals exact ⟨rfl, Below.one _ _⟩
 ·obtain rfl : lv = 0 := by omega
  simp only [decide_true, Bool.true_and]
  clear h
  go_enter Tryz.func114, Tryz.ntmps114
  go_wp2_with fail
  all_goals go_ret
  all_goals exact ⟨rfl, Below.one _ _⟩
theorem rcounts_18 (n : Int) (ov ot : Option Addr) (lv cv lt ct : Nat) (w : World) (hv : lv ≤ 9223372036854775806) : Calls Tryz.prog 114 #[.agg #[.int .i64 18, .int .i64 n, .slice ov lv cv, .slice ot lt ct]] w fun e w' => e = .returned (.bool (Trm.countsB 18 lv lt)) ∧ Below w.heap.size w w' := by
 rw [show Trm.countsB 18 lv lt = (decide (lv = 0) && decide (lt = 2)) from by rw [Bool.eq_iff_iff]; simp [Trm.countsB]]
 have g : ((lt : Int) == 2) = decide (lt = 2) := by rw [Bool.eq_iff_iff]; simp; try omega
 by_cases h : 0 < lv
 ·have h1 : decide ((0 : Int) < (lv : Int)) = true := decide_eq_true (by omega)
  have h2 : decide (0 < lv) = true := decide_eq_true h
  have h3 : (0 : Int) < (lv : Int) := by omega
  rw [decide_eq_false (show ¬ lv = 0 by omega)]
  simp only [Bool.false_and]
  go_enter Tryz.func114, Tryz.ntmps114
  go_wp2_with fail
  all_goals go_ret
  all_goals exact ⟨rfl, Below.one _ _⟩
 ·obtain rfl : lv = 0 := by omega
  simp only [decide_true, Bool.true_and]
  clear h
  go_enter Tryz.func114, Tryz.ntmps114
  go_wp2_with fail
  all_goals go_ret
  all_goals exact ⟨rfl, Below.one _ _⟩
theorem rcounts_19 (n : Int) (ov ot : Option Addr) (lv cv lt ct : Nat) (w : World) (hv : lv ≤ 9223372036854775806) : Calls Tryz.prog 114 #[.agg #[.int .i64 19, .int .i64 n, .slice ov lv cv, .slice ot lt ct]] w fun e w' => e = .returned (.bool (Trm.countsB 19 lv lt)) ∧ Below w.heap.size w w' := by
 rw [show Trm.countsB 19 lv lt = decide (lv = 0) from by rw [Bool.eq_iff_iff]; simp [Trm.countsB]]
 by_cases h : 0 < lv
 ·have h1 : decide ((0 : Int) < (lv : Int)) = true := decide_eq_true (by omega)
  have h2 : decide (0 < lv) = true := decide_eq_true h
  have h3 : (0 : Int) < (lv : Int) := by omega
  rw [decide_eq_false (show ¬ lv = 0 by omega)]
  skip
  go_enter Tryz.func114, Tryz.ntmps114
  go_wp2_with fail
  all_goals go_ret
  all_goals exact ⟨rfl, Below.one _ _⟩
 ·obtain rfl : lv = 0 := by omega
  simp only [decide_true]
  clear h
  go_enter Tryz.func114, Tryz.ntmps114
  go_wp2_with fail
  all_goals go_ret
  all_goals exact ⟨rfl, Below.one _ _⟩
theorem rcounts_20 (n : Int) (ov ot : Option Addr) (lv cv lt ct : Nat) (w : World) (hv : lv ≤ 9223372036854775806) : Calls Tryz.prog 114 #[.agg #[.int .i64 20, .int .i64 n, .slice ov lv cv, .slice ot lt ct]] w fun e w' => e = .returned (.bool (Trm.countsB 20 lv lt)) ∧ Below w.heap.size w w' := by
 rw [show Trm.countsB 20 lv lt = (decide (lv = 0) && decide (lt = 0)) from by rw [Bool.eq_iff_iff]; simp [Trm.countsB]]
 have g : ((lt : Int) == 0) = decide (lt = 0) := by rw [Bool.eq_iff_iff]; simp; try omega
 by_cases h : 0 < lv
 ·have h1 : decide ((0 : Int) < (lv : Int)) = true := decide_eq_true (by omega)
  have h2 : decide (0 < lv) = true := decide_eq_true h
  have h3 : (0 : Int) < (lv : Int) := by omega
  rw [decide_eq_false (show ¬ lv = 0 by omega)]
  simp only [Bool.false_and]
  go_enter Tryz.func114, Tryz.ntmps114
  go_wp2_with fail
  all_goals go_ret
  all_goals exact ⟨rfl, Below.one _ _⟩
 ·obtain rfl : lv = 0 := by omega
  simp only [decide_true, Bool.true_and]
  clear h
  go_enter Tryz.func114, Tryz.ntmps114
  go_wp2_with fail
  all_goals go_ret
  all_goals exact ⟨rfl, Below.one _ _⟩
theorem rcounts_21 (n : Int) (ov ot : Option Addr) (lv cv lt ct : Nat) (w : World) (hv : lv ≤ 9223372036854775806) : Calls Tryz.prog 114 #[.agg #[.int .i64 21, .int .i64 n, .slice ov lv cv, .slice ot lt ct]] w fun e w' => e = .returned (.bool (Trm.countsB 21 lv lt)) ∧ Below w.heap.size w w' := by
 rw [show Trm.countsB 21 lv lt = (decide (lv = 0) && decide (lt = 0)) from by rw [Bool.eq_iff_iff]; simp [Trm.countsB]]
 have g : ((lt : Int) == 0) = decide (lt = 0) := by rw [Bool.eq_iff_iff]; simp; try omega
 by_cases h : 0 < lv
 ·have h1 : decide ((0 : Int) < (lv : Int)) = true := decide_eq_true (by omega)
  have h2 : decide (0 < lv) = true := decide_eq_true h
  have h3 : (0 : Int) < (lv : Int) := by omega
  rw [decide_eq_false (show ¬ lv = 0 by omega)]
  simp only [Bool.false_and]
  go_enter Tryz.func114, Tryz.ntmps114
  go_wp2_with fail
  all_goals go_ret
  all_goals exact ⟨rfl, Below.one _ _⟩
 ·obtain rfl : lv = 0 := by omega
  simp only [decide_true, Bool.true_and]
  clear h
  go_enter Tryz.func114, Tryz.ntmps114
  go_wp2_with fail
  all_goals go_ret
  all_goals exact ⟨rfl, Below.one _ _⟩
theorem rcounts_22 (n : Int) (ov ot : Option Addr) (lv cv lt ct : Nat) (w : World) (hv : lv ≤ 9223372036854775806) : Calls Tryz.prog 114 #[.agg #[.int .i64 22, .int .i64 n, .slice ov lv cv, .slice ot lt ct]] w fun e w' => e = .returned (.bool (Trm.countsB 22 lv lt)) ∧ Below w.heap.size w w' := by
 rw [show Trm.countsB 22 lv lt = (decide (lv = 0) && decide (1 ≤ lt)) from by rw [Bool.eq_iff_iff]; simp [Trm.countsB]]
 have g : decide ((1 : Int) ≤ (lt : Int)) = decide (1 ≤ lt) := by rw [decide_eq_decide]; omega
 by_cases h : 0 < lv
 ·have h1 : decide ((0 : Int) < (lv : Int)) = true := decide_eq_true (by omega)
  have h2 : decide (0 < lv) = true := decide_eq_true h
  have h3 : (0 : Int) < (lv : Int) := by omega
  rw [decide_eq_false (show ¬ lv = 0 by omega)]
  simp only [Bool.false_and]
  go_enter Tryz.func114, Tryz.ntmps114
  go_wp2_with fail
  all_goals go_ret
  all_goals exact ⟨rfl, Below.one _ _⟩
 ·obtain rfl : lv = 0 := by omega
  simp only [decide_true, Bool.true_and]
  clear h
  go_enter Tryz.func114, Tryz.ntmps114
  go_wp2_with fail
  all_goals go_ret
  all_goals exact ⟨rfl, Below.one _ _⟩
end
section
namespace Mdl
theorem wf_nil {nc nk : Int} {fr : Bool} {x : Trm} : Trm.wf nc nk fr x (fun y => ([] : List Int).contains y) = Trm.wf nc nk fr x (fun _ => false) := by
 have : (fun y => ([] : List Int).contains y) = fun (_ : Int) => false := by funext y; simp
 rw [this]
theorem wf_own {nc nk : Int} {fr : Bool} {x : Trm} (v : List Int) : Trm.wf nc nk fr x (fun y => v.contains y) = Trm.wf nc nk fr x (Trm.addV (fun _ => false) v) := by
 have : (fun y => v.contains y) = Trm.addV (fun _ => false) v := by funext y; simp [Trm.addV]
 rw [this]
theorem rcodes_say {nc nk : Int} : ∀ (l : List Cod) (s r : Int × List Int), Trm.newB (fun _ => false) s.2 = true → s.1 ≤ 20000 → rcodes nc nk l s = some r → codesB nc nk l (setOf s.2) = true ∧ r.1 = s.1 + (l.map fun c => c.body.all).sum ∧ r.1 ≤ 20000
 | [], s, r, hn, hs, h => by
  rw [rcodes] at h
  obtain rfl := Option.some.inj h
  exact ⟨by rw [codesB], by simp, hs⟩
 | c :: l, s, r, hn, hs, h => by
  rw [rcodes] at h
  split at h
  ·rename_i hc
   rw [Bool.and_eq_true] at hc
   cases hb : Trm.rchk nc nk true c.body c.v 0 (s.1, s.2 ++ c.v) with
   | none => rw [hb] at h; cases h
   | some s' =>
    rw [hb] at h
    obtain ⟨g1, rfl, g3, g4⟩ := Trm.rsay c.body nc nk true c.v 0 _ _ hc.1 hb
    have ih := rcodes_say l _ r g3 g4 h
    rw [codesB_step (_b := []) hn]
    refine ⟨?_, ?_, ih.2.2⟩
    ·rw [hc.2, g3, ← wf_own, g1, ih.1]
     rfl
    ·rw [ih.2.1]
     simp only [List.map_cons, List.sum_cons]
     omega
  ·cases h
theorem rok_ok {m : Mdl} (h : m.rokB = true) : m.okB = true ∧ m.all ≤ 20000 := by
 rw [rokB, Bool.and_eq_true] at h
 obtain ⟨h1, h2⟩ := h
 cases hb : Trm.rchk m.consts.length m.codes.length false m.body [] 0 (0, []) with
 | none => rw [hb] at h2; cases h2
 | some s =>
  rw [hb] at h2
  obtain ⟨g1, rfl, g3, g4⟩ := Trm.rsay m.body _ _ _ _ _ _ _ rfl hb
  obtain ⟨r, hr⟩ := Option.isSome_iff_exists.1 h2
  have h3 := rcodes_say m.codes _ r g3 g4 hr
  rw [wf_nil] at g1
  refine ⟨?_, ?_⟩
  ·rw [okB, h1, g1]
   simp only [List.nil_append] at g3 h3
   rw [g3, show Trm.addV (fun _ => false) m.body.bnd = setOf m.body.bnd from rfl, h3.1]
   rfl
  ·have h4 := h3.2.1
   have h5 := h3.2.2
   unfold Mdl.all
   dsimp only at h4
   omega
end Mdl
end
end Go.Proofs.YtigkhmppnnljiaaGreatDoor
