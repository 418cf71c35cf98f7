/-
  flat.partsOf, below, fits.
-/
import Derived.Test.YtdlhocghiaghfaaGreatDoorCont
import Derived.Test.YtdlhocghiaghfaaGreatDoorFacts
import Derived.Test.YtdlhocghiaghfaaGreatDoorBoxL
namespace Go.Proofs.YtdlhocghiaghfaaGreatDoor
open Go.RowKit

set_option maxHeartbeats 1000000 in
theorem below_to (n m : Int) (r : Bool) (hr : Unt.below n m = r) (w : World) : Calls Tryz.prog 68 #[.int .i64 n, .int .i64 m] w fun e w' => e = .returned (.bool r) ∧ w' = w := by
  by_cases h0 : 0 ≤ n
  · by_cases h1 : n < m
    · obtain rfl : true = r := by rw [← hr]; simp [Unt.below, h0, h1]
      clear hr
      go_enter Tryz.func68, Tryz.ntmps68
      go_wp2_with fail
      go_ret
      exact ⟨rfl, rfl⟩
    · obtain rfl : false = r := by rw [← hr]; simp [Unt.below, h1]
      have h1' : decide (n < m) = false := decide_eq_false h1
      clear hr h1
      go_enter Tryz.func68, Tryz.ntmps68
      go_wp2_with fail
      go_ret
      exact ⟨rfl, rfl⟩
  · obtain rfl : false = r := by rw [← hr]; simp [Unt.below, h0]
    have h0' : decide (0 ≤ n) = false := decide_eq_false h0
    clear hr h0
    go_enter Tryz.func68, Tryz.ntmps68
    go_wp2_with fail
    go_ret
    exact ⟨rfl, rfl⟩

set_option maxHeartbeats 1000000 in
theorem reg_to (has : Bool) (n regs : Int) (r : Bool) (hr : Unt.regB has n regs = r) (pb : Nat) (w : World) (hc : w.cell? ⟨pb, 2, none⟩ = some (.int .i64 regs)) : Calls Tryz.prog 67 #[.bool has, .int .i64 n, .pointer (some ⟨pb, 0, none⟩)] w fun e w' => e = .returned (.bool r) ∧ w' = w := by
  have HR := Lib.hid hr
  clear hr
  cases has with
  | true =>
    have HB := Lib.hid (show Unt.below n regs = r from by rw [← HR.out]; simp [Unt.regB])
    go_enter Tryz.func67, Tryz.ntmps67
    go_wp2_with fail
    refine (below_to n regs r HB.out _).mono ?_
    rintro e w' ⟨rfl, rfl⟩
    go_wp2_with fail
    go_ret
    exact ⟨rfl, rfl⟩
  | false =>
    by_cases hn : n = 0
    · subst hn
      obtain rfl : true = r := HR.out
      go_enter Tryz.func67, Tryz.ntmps67
      go_wp2_with fail
      go_ret
      exact ⟨rfl, rfl⟩
    · have hn' : (n == 0) = false := by simpa using hn
      obtain rfl : false = r := by rw [← HR.out]; simp [Unt.regB, hn]
      go_enter Tryz.func67, Tryz.ntmps67
      go_wp2_with fail
      go_ret
      exact ⟨rfl, rfl⟩

set_option maxHeartbeats 1000000 in
theorem regN_to (n regs : Int) (r : Bool) (hr : Unt.below n regs = r) (pb : Nat) (w : World) (hc : w.cell? ⟨pb, 2, none⟩ = some (.int .i64 regs)) : Calls Tryz.prog 70 #[.int .i64 n, .pointer (some ⟨pb, 0, none⟩)] w fun e w' => e = .returned (.bool (!r)) ∧ w' = w := by
  go_enter Tryz.func70, Tryz.ntmps70
  go_wp2_with fail
  refine (below_to n regs r hr _).mono ?_
  rintro e w' ⟨rfl, rfl⟩
  go_wp2_with fail
  go_ret
  exact ⟨rfl, rfl⟩

set_option maxHeartbeats 1000000 in
theorem parts_0 (w : World) : Calls Tryz.prog 66 #[.int .i64 0] w fun e w' => e = .returned (.tuple #[.agg #[.bool true, .bool false, .bool false, .bool false, .bool true, .bool false], .bool true]) ∧ Below w.heap.size w w' := by
  go_enter Tryz.func66, Tryz.ntmps66
  go_wp2_with fail
  exact bodyPost_ret (v := .tuple #[.agg #[.bool true, .bool false, .bool false, .bool false, .bool true, .bool false], .bool true]) (by simp [results, Tryz.results66, go_sem]) rfl ⟨rfl, Below.one _ _⟩

set_option maxHeartbeats 1000000 in
theorem parts_1 (w : World) : Calls Tryz.prog 66 #[.int .i64 1] w fun e w' => e = .returned (.tuple #[.agg #[.bool true, .bool true, .bool false, .bool false, .bool false, .bool false], .bool true]) ∧ Below w.heap.size w w' := by
  go_enter Tryz.func66, Tryz.ntmps66
  go_wp2_with fail
  exact bodyPost_ret (v := .tuple #[.agg #[.bool true, .bool true, .bool false, .bool false, .bool false, .bool false], .bool true]) (by simp [results, Tryz.results66, go_sem]) rfl ⟨rfl, Below.one _ _⟩

set_option maxHeartbeats 1000000 in
theorem parts_2 (w : World) : Calls Tryz.prog 66 #[.int .i64 2] w fun e w' => e = .returned (.tuple #[.agg #[.bool true, .bool false, .bool false, .bool false, .bool true, .bool false], .bool true]) ∧ Below w.heap.size w w' := by
  go_enter Tryz.func66, Tryz.ntmps66
  go_wp2_with fail
  exact bodyPost_ret (v := .tuple #[.agg #[.bool true, .bool false, .bool false, .bool false, .bool true, .bool false], .bool true]) (by simp [results, Tryz.results66, go_sem]) rfl ⟨rfl, Below.one _ _⟩

set_option maxHeartbeats 1000000 in
theorem parts_3 (w : World) : Calls Tryz.prog 66 #[.int .i64 3] w fun e w' => e = .returned (.tuple #[.agg #[.bool true, .bool false, .bool false, .bool false, .bool false, .bool false], .bool true]) ∧ Below w.heap.size w w' := by
  go_enter Tryz.func66, Tryz.ntmps66
  go_wp2_with fail
  exact bodyPost_ret (v := .tuple #[.agg #[.bool true, .bool false, .bool false, .bool false, .bool false, .bool false], .bool true]) (by simp [results, Tryz.results66, go_sem]) rfl ⟨rfl, Below.one _ _⟩

set_option maxHeartbeats 1000000 in
theorem parts_4 (w : World) : Calls Tryz.prog 66 #[.int .i64 4] w fun e w' => e = .returned (.tuple #[.agg #[.bool true, .bool false, .bool false, .bool false, .bool false, .bool false], .bool true]) ∧ Below w.heap.size w w' := by
  go_enter Tryz.func66, Tryz.ntmps66
  go_wp2_with fail
  exact bodyPost_ret (v := .tuple #[.agg #[.bool true, .bool false, .bool false, .bool false, .bool false, .bool false], .bool true]) (by simp [results, Tryz.results66, go_sem]) rfl ⟨rfl, Below.one _ _⟩

set_option maxHeartbeats 1000000 in
theorem parts_5 (w : World) : Calls Tryz.prog 66 #[.int .i64 5] w fun e w' => e = .returned (.tuple #[.agg #[.bool true, .bool false, .bool false, .bool false, .bool true, .bool false], .bool true]) ∧ Below w.heap.size w w' := by
  go_enter Tryz.func66, Tryz.ntmps66
  go_wp2_with fail
  exact bodyPost_ret (v := .tuple #[.agg #[.bool true, .bool false, .bool false, .bool false, .bool true, .bool false], .bool true]) (by simp [results, Tryz.results66, go_sem]) rfl ⟨rfl, Below.one _ _⟩

set_option maxHeartbeats 1000000 in
theorem parts_6 (w : World) : Calls Tryz.prog 66 #[.int .i64 6] w fun e w' => e = .returned (.tuple #[.agg #[.bool true, .bool false, .bool false, .bool false, .bool true, .bool false], .bool true]) ∧ Below w.heap.size w w' := by
  go_enter Tryz.func66, Tryz.ntmps66
  go_wp2_with fail
  exact bodyPost_ret (v := .tuple #[.agg #[.bool true, .bool false, .bool false, .bool false, .bool true, .bool false], .bool true]) (by simp [results, Tryz.results66, go_sem]) rfl ⟨rfl, Below.one _ _⟩

set_option maxHeartbeats 1000000 in
theorem parts_7 (w : World) : Calls Tryz.prog 66 #[.int .i64 7] w fun e w' => e = .returned (.tuple #[.agg #[.bool true, .bool false, .bool false, .bool true, .bool true, .bool false], .bool true]) ∧ Below w.heap.size w w' := by
  go_enter Tryz.func66, Tryz.ntmps66
  go_wp2_with fail
  exact bodyPost_ret (v := .tuple #[.agg #[.bool true, .bool false, .bool false, .bool true, .bool true, .bool false], .bool true]) (by simp [results, Tryz.results66, go_sem]) rfl ⟨rfl, Below.one _ _⟩

set_option maxHeartbeats 1000000 in
theorem parts_8 (w : World) : Calls Tryz.prog 66 #[.int .i64 8] w fun e w' => e = .returned (.tuple #[.agg #[.bool false, .bool true, .bool false, .bool true, .bool false, .bool false], .bool true]) ∧ Below w.heap.size w w' := by
  go_enter Tryz.func66, Tryz.ntmps66
  go_wp2_with fail
  exact bodyPost_ret (v := .tuple #[.agg #[.bool false, .bool true, .bool false, .bool true, .bool false, .bool false], .bool true]) (by simp [results, Tryz.results66, go_sem]) rfl ⟨rfl, Below.one _ _⟩

set_option maxHeartbeats 1000000 in
theorem parts_9 (w : World) : Calls Tryz.prog 66 #[.int .i64 9] w fun e w' => e = .returned (.tuple #[.agg #[.bool true, .bool false, .bool false, .bool true, .bool true, .bool false], .bool true]) ∧ Below w.heap.size w w' := by
  go_enter Tryz.func66, Tryz.ntmps66
  go_wp2_with fail
  exact bodyPost_ret (v := .tuple #[.agg #[.bool true, .bool false, .bool false, .bool true, .bool true, .bool false], .bool true]) (by simp [results, Tryz.results66, go_sem]) rfl ⟨rfl, Below.one _ _⟩

set_option maxHeartbeats 1000000 in
theorem parts_10 (w : World) : Calls Tryz.prog 66 #[.int .i64 10] w fun e w' => e = .returned (.tuple #[.agg #[.bool true, .bool true, .bool false, .bool false, .bool false, .bool false], .bool true]) ∧ Below w.heap.size w w' := by
  go_enter Tryz.func66, Tryz.ntmps66
  go_wp2_with fail
  exact bodyPost_ret (v := .tuple #[.agg #[.bool true, .bool true, .bool false, .bool false, .bool false, .bool false], .bool true]) (by simp [results, Tryz.results66, go_sem]) rfl ⟨rfl, Below.one _ _⟩

set_option maxHeartbeats 1000000 in
theorem parts_11 (w : World) : Calls Tryz.prog 66 #[.int .i64 11] w fun e w' => e = .returned (.tuple #[.agg #[.bool true, .bool true, .bool false, .bool false, .bool false, .bool false], .bool true]) ∧ Below w.heap.size w w' := by
  go_enter Tryz.func66, Tryz.ntmps66
  go_wp2_with fail
  exact bodyPost_ret (v := .tuple #[.agg #[.bool true, .bool true, .bool false, .bool false, .bool false, .bool false], .bool true]) (by simp [results, Tryz.results66, go_sem]) rfl ⟨rfl, Below.one _ _⟩

set_option maxHeartbeats 1000000 in
theorem parts_12 (w : World) : Calls Tryz.prog 66 #[.int .i64 12] w fun e w' => e = .returned (.tuple #[.agg #[.bool false, .bool true, .bool true, .bool false, .bool false, .bool false], .bool true]) ∧ Below w.heap.size w w' := by
  go_enter Tryz.func66, Tryz.ntmps66
  go_wp2_with fail
  exact bodyPost_ret (v := .tuple #[.agg #[.bool false, .bool true, .bool true, .bool false, .bool false, .bool false], .bool true]) (by simp [results, Tryz.results66, go_sem]) rfl ⟨rfl, Below.one _ _⟩

set_option maxHeartbeats 1000000 in
theorem parts_13 (w : World) : Calls Tryz.prog 66 #[.int .i64 13] w fun e w' => e = .returned (.tuple #[.agg #[.bool false, .bool true, .bool true, .bool false, .bool false, .bool false], .bool true]) ∧ Below w.heap.size w w' := by
  go_enter Tryz.func66, Tryz.ntmps66
  go_wp2_with fail
  exact bodyPost_ret (v := .tuple #[.agg #[.bool false, .bool true, .bool true, .bool false, .bool false, .bool false], .bool true]) (by simp [results, Tryz.results66, go_sem]) rfl ⟨rfl, Below.one _ _⟩

set_option maxHeartbeats 1000000 in
theorem parts_14 (w : World) : Calls Tryz.prog 66 #[.int .i64 14] w fun e w' => e = .returned (.tuple #[.agg #[.bool true, .bool true, .bool false, .bool false, .bool false, .bool false], .bool true]) ∧ Below w.heap.size w w' := by
  go_enter Tryz.func66, Tryz.ntmps66
  go_wp2_with fail
  exact bodyPost_ret (v := .tuple #[.agg #[.bool true, .bool true, .bool false, .bool false, .bool false, .bool false], .bool true]) (by simp [results, Tryz.results66, go_sem]) rfl ⟨rfl, Below.one _ _⟩

set_option maxHeartbeats 1000000 in
theorem parts_15 (w : World) : Calls Tryz.prog 66 #[.int .i64 15] w fun e w' => e = .returned (.tuple #[.agg #[.bool false, .bool false, .bool false, .bool false, .bool true, .bool false], .bool true]) ∧ Below w.heap.size w w' := by
  go_enter Tryz.func66, Tryz.ntmps66
  go_wp2_with fail
  exact bodyPost_ret (v := .tuple #[.agg #[.bool false, .bool false, .bool false, .bool false, .bool true, .bool false], .bool true]) (by simp [results, Tryz.results66, go_sem]) rfl ⟨rfl, Below.one _ _⟩

set_option maxHeartbeats 1000000 in
theorem parts_16 (w : World) : Calls Tryz.prog 66 #[.int .i64 16] w fun e w' => e = .returned (.tuple #[.agg #[.bool false, .bool true, .bool false, .bool false, .bool false, .bool true], .bool true]) ∧ Below w.heap.size w w' := by
  go_enter Tryz.func66, Tryz.ntmps66
  go_wp2_with fail
  exact bodyPost_ret (v := .tuple #[.agg #[.bool false, .bool true, .bool false, .bool false, .bool false, .bool true], .bool true]) (by simp [results, Tryz.results66, go_sem]) rfl ⟨rfl, Below.one _ _⟩

set_option maxHeartbeats 1000000 in
theorem parts_17 (w : World) : Calls Tryz.prog 66 #[.int .i64 17] w fun e w' => e = .returned (.tuple #[.agg #[.bool true, .bool true, .bool false, .bool true, .bool false, .bool false], .bool true]) ∧ Below w.heap.size w w' := by
  go_enter Tryz.func66, Tryz.ntmps66
  go_wp2_with fail
  exact bodyPost_ret (v := .tuple #[.agg #[.bool true, .bool true, .bool false, .bool true, .bool false, .bool false], .bool true]) (by simp [results, Tryz.results66, go_sem]) rfl ⟨rfl, Below.one _ _⟩

set_option maxHeartbeats 1000000 in
theorem parts_18 (w : World) : Calls Tryz.prog 66 #[.int .i64 18] w fun e w' => e = .returned (.tuple #[.agg #[.bool true, .bool false, .bool true, .bool true, .bool true, .bool false], .bool true]) ∧ Below w.heap.size w w' := by
  go_enter Tryz.func66, Tryz.ntmps66
  go_wp2_with fail
  exact bodyPost_ret (v := .tuple #[.agg #[.bool true, .bool false, .bool true, .bool true, .bool true, .bool false], .bool true]) (by simp [results, Tryz.results66, go_sem]) rfl ⟨rfl, Below.one _ _⟩

set_option maxHeartbeats 1000000 in
theorem parts_19 (w : World) : Calls Tryz.prog 66 #[.int .i64 19] w fun e w' => e = .returned (.tuple #[.agg #[.bool false, .bool true, .bool false, .bool true, .bool false, .bool false], .bool true]) ∧ Below w.heap.size w w' := by
  go_enter Tryz.func66, Tryz.ntmps66
  go_wp2_with fail
  exact bodyPost_ret (v := .tuple #[.agg #[.bool false, .bool true, .bool false, .bool true, .bool false, .bool false], .bool true]) (by simp [results, Tryz.results66, go_sem]) rfl ⟨rfl, Below.one _ _⟩

set_option maxHeartbeats 1000000 in
theorem parts_20 (w : World) : Calls Tryz.prog 66 #[.int .i64 20] w fun e w' => e = .returned (.tuple #[.agg #[.bool false, .bool false, .bool true, .bool true, .bool true, .bool false], .bool true]) ∧ Below w.heap.size w w' := by
  go_enter Tryz.func66, Tryz.ntmps66
  go_wp2_with fail
  exact bodyPost_ret (v := .tuple #[.agg #[.bool false, .bool false, .bool true, .bool true, .bool true, .bool false], .bool true]) (by simp [results, Tryz.results66, go_sem]) rfl ⟨rfl, Below.one _ _⟩

set_option maxHeartbeats 1000000 in
theorem parts_21 (w : World) : Calls Tryz.prog 66 #[.int .i64 21] w fun e w' => e = .returned (.tuple #[.agg #[.bool false, .bool false, .bool false, .bool true, .bool true, .bool false], .bool true]) ∧ Below w.heap.size w w' := by
  go_enter Tryz.func66, Tryz.ntmps66
  go_wp2_with fail
  exact bodyPost_ret (v := .tuple #[.agg #[.bool false, .bool false, .bool false, .bool true, .bool true, .bool false], .bool true]) (by simp [results, Tryz.results66, go_sem]) rfl ⟨rfl, Below.one _ _⟩

set_option maxHeartbeats 1000000 in
theorem parts_22 (w : World) : Calls Tryz.prog 66 #[.int .i64 22] w fun e w' => e = .returned (.tuple #[.agg #[.bool false, .bool true, .bool false, .bool false, .bool false, .bool false], .bool true]) ∧ Below w.heap.size w w' := by
  go_enter Tryz.func66, Tryz.ntmps66
  go_wp2_with fail
  exact bodyPost_ret (v := .tuple #[.agg #[.bool false, .bool true, .bool false, .bool false, .bool false, .bool false], .bool true]) (by simp [results, Tryz.results66, go_sem]) rfl ⟨rfl, Below.one _ _⟩

set_option maxHeartbeats 1000000 in
theorem parts_no (n : Int) (h : n < 0 ∨ 22 < n) (w : World) : Calls Tryz.prog 66 #[.int .i64 n] w fun e w' => e = .returned (.tuple #[.agg #[.bool false, .bool false, .bool false, .bool false, .bool false, .bool false], .bool false]) ∧ Below w.heap.size w w' := by
  rcases h with h | h
  · go_enter Tryz.func66, Tryz.ntmps66
    go_wp2_with fail
    exact bodyPost_ret (v := .tuple #[.agg #[.bool false, .bool false, .bool false, .bool false, .bool false, .bool false], .bool false]) (by simp [results, Tryz.results66, go_sem]) rfl ⟨rfl, Below.one _ _⟩
  · go_enter Tryz.func66, Tryz.ntmps66
    go_wp2_with fail
    exact bodyPost_ret (v := .tuple #[.agg #[.bool false, .bool false, .bool false, .bool false, .bool false, .bool false], .bool false]) (by simp [results, Tryz.results66, go_sem]) rfl ⟨rfl, Below.one _ _⟩
end Go.Proofs.YtdlhocghiaghfaaGreatDoor
