/-
  The contracts of prims.table, Facts.
-/
import Derived.Test.YtdlhocghiaghfaaGreatDoorPrimLaw
import Derived.Test.YtdlhocghiaghfaaGreatDoorEnv
import Derived.Deep.WholeRow
import Derived.Laws.Rows
import Derived.Laws.ResultCell
namespace Go.Proofs.YtdlhocghiaghfaaGreatDoor
open Go.RowKit

def factC (f : Fact) : List Value := [.string f.name, .int .i64 f.least, .int .i64 f.most, .bool f.pure, .bool f.folds]
def factV (f : Fact) : Value := .agg (factC f).toArray
def tableC : List Value := Prims.table.flatMap factC
def tableA : Array Value := tableC.toArray
theorem tableA_size : tableA.size = 155 := by kernel_rfl
theorem tableA_one : tableA.all (·.oneCell') = true := by kernel_rfl

set_option maxHeartbeats 4000000 in
set_option maxRecDepth 100000 in
theorem table_any (w : World) : Calls Tryz.prog 103 #[] w fun e w' => e = .returned (.agg tableA) ∧ Below w.heap.size w w' := by
  go_enter Tryz.func103, Tryz.ntmps103
  go_wp2_with fail
  generalize hL : List.set _ 154 (Value.bool false) = V
  have hV : V = tableA.toList := by rw [← hL]; kernel_rfl
  subst hV
  clear hL
  have hst := run_storeCells_new (P := Tryz.prog) w 145 Tryz.zeroCells145 tableA (by kernel_rfl) (by rw [tableA_size]; exact Tryz.zeroCells145_size) tableA_one
  rw [hst]
  simp only [Result.andThen]
  rw [Oper.upon_skip]
  generalize Value.agg (Array.setIfInBounds _ 154 (Value.bool false)) = X
  have hld := run_loadVar_new (P := Tryz.prog) w 145 tableA 31 106 Tryz.underlying145 (by rw [tableA_size]; kernel_rfl)
  go_wp2
  refine bodyPost_ret (v := .agg tableA) ?_ rfl ⟨rfl, (Below.refl _ _).alloc (Nat.le_refl _) _⟩
  exact results_cell_row rfl _ _ w.heap.size 145 tableA (0, 0) _ rfl (heap_alloc_last w _) Tryz.underlying145 rfl (by rw [tableA_size]; kernel_rfl)

end Go.Proofs.YtdlhocghiaghfaaGreatDoor
