/-
  What the proofs lean on: Shp1, Shp2, Shp3, ModOpen.
-/
import Derived.Test.YtigkhmppnnljiaaGreatDoorShiftA08
import Derived.Test.YtigkhmppnnljiaaGreatDoorShiftA09
namespace Go.Proofs.YtigkhmppnnljiaaGreatDoor
open Go Go.RowKit

set_option maxHeartbeats 2000000 in
set_option maxRecDepth 100000 in
theorem shape_7 (w : World) : Calls Tryz.prog 100 #[.int .i64 7] w fun e w' => e = .returned (.tuple #[.agg #[.int .i64 0, .int .i64 0, .int .i64 0, .bool false, .bool true], .bool true]) ∧ Below w.heap.size w w' := by
  go_enter Tryz.func100, Tryz.ntmps100
  go_wp2_with fail
  exact bodyPost_ret (v := .tuple #[.agg #[.int .i64 0, .int .i64 0, .int .i64 0, .bool false, .bool true], .bool true]) (by simp [results, Tryz.results100, go_sem]) rfl ⟨rfl, Below.one _ _⟩
set_option maxHeartbeats 2000000 in
set_option maxRecDepth 100000 in
theorem shape_8 (w : World) : Calls Tryz.prog 100 #[.int .i64 8] w fun e w' => e = .returned (.tuple #[.agg #[.int .i64 1, .int .i64 3, .int .i64 0, .bool false, .bool true], .bool true]) ∧ Below w.heap.size w w' := by
  go_enter Tryz.func100, Tryz.ntmps100
  go_wp2_with fail
  exact bodyPost_ret (v := .tuple #[.agg #[.int .i64 1, .int .i64 3, .int .i64 0, .bool false, .bool true], .bool true]) (by simp [results, Tryz.results100, go_sem]) rfl ⟨rfl, Below.one _ _⟩
set_option maxHeartbeats 2000000 in
set_option maxRecDepth 100000 in
theorem shape_9 (w : World) : Calls Tryz.prog 100 #[.int .i64 9] w fun e w' => e = .returned (.tuple #[.agg #[.int .i64 1, .int .i64 3, .int .i64 0, .bool false, .bool true], .bool true]) ∧ Below w.heap.size w w' := by
  go_enter Tryz.func100, Tryz.ntmps100
  go_wp2_with fail
  exact bodyPost_ret (v := .tuple #[.agg #[.int .i64 1, .int .i64 3, .int .i64 0, .bool false, .bool true], .bool true]) (by simp [results, Tryz.results100, go_sem]) rfl ⟨rfl, Below.one _ _⟩
set_option maxHeartbeats 2000000 in
set_option maxRecDepth 100000 in
theorem shape_12 (w : World) : Calls Tryz.prog 100 #[.int .i64 12] w fun e w' => e = .returned (.tuple #[.agg #[.int .i64 1, .int .i64 3, .int .i64 1, .bool false, .bool false], .bool true]) ∧ Below w.heap.size w w' := by
  go_enter Tryz.func100, Tryz.ntmps100
  go_wp2_with fail
  exact bodyPost_ret (v := .tuple #[.agg #[.int .i64 1, .int .i64 3, .int .i64 1, .bool false, .bool false], .bool true]) (by simp [results, Tryz.results100, go_sem]) rfl ⟨rfl, Below.one _ _⟩
set_option maxHeartbeats 2000000 in
set_option maxRecDepth 100000 in
theorem shape_13 (w : World) : Calls Tryz.prog 100 #[.int .i64 13] w fun e w' => e = .returned (.tuple #[.agg #[.int .i64 1, .int .i64 3, .int .i64 0, .bool false, .bool false], .bool true]) ∧ Below w.heap.size w w' := by
  go_enter Tryz.func100, Tryz.ntmps100
  go_wp2_with fail
  exact bodyPost_ret (v := .tuple #[.agg #[.int .i64 1, .int .i64 3, .int .i64 0, .bool false, .bool false], .bool true]) (by simp [results, Tryz.results100, go_sem]) rfl ⟨rfl, Below.one _ _⟩
set_option maxHeartbeats 2000000 in
set_option maxRecDepth 100000 in
theorem shape_14 (w : World) : Calls Tryz.prog 100 #[.int .i64 14] w fun e w' => e = .returned (.tuple #[.agg #[.int .i64 1, .int .i64 1, .int .i64 1, .bool false, .bool false], .bool true]) ∧ Below w.heap.size w w' := by
  go_enter Tryz.func100, Tryz.ntmps100
  go_wp2_with fail
  exact bodyPost_ret (v := .tuple #[.agg #[.int .i64 1, .int .i64 1, .int .i64 1, .bool false, .bool false], .bool true]) (by simp [results, Tryz.results100, go_sem]) rfl ⟨rfl, Below.one _ _⟩
set_option maxHeartbeats 2000000 in
set_option maxRecDepth 100000 in
theorem shape_10 (w : World) : Calls Tryz.prog 100 #[.int .i64 10] w fun e w' => e = .returned (.tuple #[.agg #[.int .i64 2, .int .i64 3, .int .i64 0, .bool true, .bool false], .bool true]) ∧ Below w.heap.size w w' := by
  go_enter Tryz.func100, Tryz.ntmps100
  go_wp2_with fail
  exact bodyPost_ret (v := .tuple #[.agg #[.int .i64 2, .int .i64 3, .int .i64 0, .bool true, .bool false], .bool true]) (by simp [results, Tryz.results100, go_sem]) rfl ⟨rfl, Below.one _ _⟩
end Go.Proofs.YtigkhmppnnljiaaGreatDoor

namespace Go.Proofs.YtigkhmppnnljiaaGreatDoor
open Go Go.RowKit

set_option maxHeartbeats 2000000 in
set_option maxRecDepth 100000 in
theorem shape_15 (w : World) : Calls Tryz.prog 100 #[.int .i64 15] w fun e w' => e = .returned (.tuple #[.agg #[.int .i64 2, .int .i64 3, .int .i64 1, .bool false, .bool false], .bool true]) ∧ Below w.heap.size w w' := by
  go_enter Tryz.func100, Tryz.ntmps100
  go_wp2_with fail
  exact bodyPost_ret (v := .tuple #[.agg #[.int .i64 2, .int .i64 3, .int .i64 1, .bool false, .bool false], .bool true]) (by simp [results, Tryz.results100, go_sem]) rfl ⟨rfl, Below.one _ _⟩
set_option maxHeartbeats 2000000 in
set_option maxRecDepth 100000 in
theorem shape_16 (w : World) : Calls Tryz.prog 100 #[.int .i64 16] w fun e w' => e = .returned (.tuple #[.agg #[.int .i64 2, .int .i64 3, .int .i64 1, .bool false, .bool false], .bool true]) ∧ Below w.heap.size w w' := by
  go_enter Tryz.func100, Tryz.ntmps100
  go_wp2_with fail
  exact bodyPost_ret (v := .tuple #[.agg #[.int .i64 2, .int .i64 3, .int .i64 1, .bool false, .bool false], .bool true]) (by simp [results, Tryz.results100, go_sem]) rfl ⟨rfl, Below.one _ _⟩
set_option maxHeartbeats 2000000 in
set_option maxRecDepth 100000 in
theorem shape_17 (w : World) : Calls Tryz.prog 100 #[.int .i64 17] w fun e w' => e = .returned (.tuple #[.agg #[.int .i64 2, .int .i64 3, .int .i64 2, .bool false, .bool false], .bool true]) ∧ Below w.heap.size w w' := by
  go_enter Tryz.func100, Tryz.ntmps100
  go_wp2_with fail
  exact bodyPost_ret (v := .tuple #[.agg #[.int .i64 2, .int .i64 3, .int .i64 2, .bool false, .bool false], .bool true]) (by simp [results, Tryz.results100, go_sem]) rfl ⟨rfl, Below.one _ _⟩
set_option maxHeartbeats 2000000 in
set_option maxRecDepth 100000 in
theorem shape_18 (w : World) : Calls Tryz.prog 100 #[.int .i64 18] w fun e w' => e = .returned (.tuple #[.agg #[.int .i64 2, .int .i64 3, .int .i64 2, .bool false, .bool false], .bool true]) ∧ Below w.heap.size w w' := by
  go_enter Tryz.func100, Tryz.ntmps100
  go_wp2_with fail
  exact bodyPost_ret (v := .tuple #[.agg #[.int .i64 2, .int .i64 3, .int .i64 2, .bool false, .bool false], .bool true]) (by simp [results, Tryz.results100, go_sem]) rfl ⟨rfl, Below.one _ _⟩
set_option maxHeartbeats 2000000 in
set_option maxRecDepth 100000 in
theorem shape_19 (w : World) : Calls Tryz.prog 100 #[.int .i64 19] w fun e w' => e = .returned (.tuple #[.agg #[.int .i64 3, .int .i64 3, .int .i64 0, .bool true, .bool false], .bool true]) ∧ Below w.heap.size w w' := by
  go_enter Tryz.func100, Tryz.ntmps100
  go_wp2_with fail
  exact bodyPost_ret (v := .tuple #[.agg #[.int .i64 3, .int .i64 3, .int .i64 0, .bool true, .bool false], .bool true]) (by simp [results, Tryz.results100, go_sem]) rfl ⟨rfl, Below.one _ _⟩
end Go.Proofs.YtigkhmppnnljiaaGreatDoor

namespace Go.Proofs.YtigkhmppnnljiaaGreatDoor
open Go Go.RowKit

set_option maxHeartbeats 2000000 in
set_option maxRecDepth 100000 in
theorem shape_20 (w : World) : Calls Tryz.prog 100 #[.int .i64 20] w fun e w' => e = .returned (.tuple #[.agg #[.int .i64 3, .int .i64 3, .int .i64 0, .bool false, .bool false], .bool true]) ∧ Below w.heap.size w w' := by
  go_enter Tryz.func100, Tryz.ntmps100
  go_wp2_with fail
  exact bodyPost_ret (v := .tuple #[.agg #[.int .i64 3, .int .i64 3, .int .i64 0, .bool false, .bool false], .bool true]) (by simp [results, Tryz.results100, go_sem]) rfl ⟨rfl, Below.one _ _⟩
set_option maxHeartbeats 2000000 in
set_option maxRecDepth 100000 in
theorem shape_21 (w : World) : Calls Tryz.prog 100 #[.int .i64 21] w fun e w' => e = .returned (.tuple #[.agg #[.int .i64 3, .int .i64 3, .int .i64 0, .bool false, .bool false], .bool true]) ∧ Below w.heap.size w w' := by
  go_enter Tryz.func100, Tryz.ntmps100
  go_wp2_with fail
  exact bodyPost_ret (v := .tuple #[.agg #[.int .i64 3, .int .i64 3, .int .i64 0, .bool false, .bool false], .bool true]) (by simp [results, Tryz.results100, go_sem]) rfl ⟨rfl, Below.one _ _⟩
set_option maxHeartbeats 2000000 in
set_option maxRecDepth 100000 in
theorem shape_22 (w : World) : Calls Tryz.prog 100 #[.int .i64 22] w fun e w' => e = .returned (.tuple #[.agg #[.int .i64 3, .int .i64 3, .int .i64 1, .bool true, .bool false], .bool true]) ∧ Below w.heap.size w w' := by
  go_enter Tryz.func100, Tryz.ntmps100
  go_wp2_with fail
  exact bodyPost_ret (v := .tuple #[.agg #[.int .i64 3, .int .i64 3, .int .i64 1, .bool true, .bool false], .bool true]) (by simp [results, Tryz.results100, go_sem]) rfl ⟨rfl, Below.one _ _⟩
set_option maxHeartbeats 2000000 in
set_option maxRecDepth 100000 in
theorem shape_no (n : Int) (h : n < 0 ∨ 22 < n) (w : World) : Calls Tryz.prog 100 #[.int .i64 n] w fun e w' => e = .returned (.tuple #[.agg #[.int .i64 0, .int .i64 0, .int .i64 0, .bool false, .bool false], .bool false]) ∧ Below w.heap.size w w' := by
  have f0 : (n == 0) = false := by simp; omega
  have f1 : (n == 1) = false := by simp; omega
  have f2 : (n == 2) = false := by simp; omega
  have f3 : (n == 3) = false := by simp; omega
  have f4 : (n == 4) = false := by simp; omega
  have f5 : (n == 5) = false := by simp; omega
  have f6 : (n == 6) = false := by simp; omega
  have f7 : (n == 7) = false := by simp; omega
  have f8 : (n == 8) = false := by simp; omega
  have f9 : (n == 9) = false := by simp; omega
  have f10 : (n == 10) = false := by simp; omega
  have f11 : (n == 11) = false := by simp; omega
  have f12 : (n == 12) = false := by simp; omega
  have f13 : (n == 13) = false := by simp; omega
  have f14 : (n == 14) = false := by simp; omega
  have f15 : (n == 15) = false := by simp; omega
  have f16 : (n == 16) = false := by simp; omega
  have f17 : (n == 17) = false := by simp; omega
  have f18 : (n == 18) = false := by simp; omega
  have f19 : (n == 19) = false := by simp; omega
  have f20 : (n == 20) = false := by simp; omega
  have f21 : (n == 21) = false := by simp; omega
  have f22 : (n == 22) = false := by simp; omega
  clear h
  go_enter Tryz.func100, Tryz.ntmps100
  go_wp2_with fail
  exact bodyPost_ret (v := .tuple #[.agg #[.int .i64 0, .int .i64 0, .int .i64 0, .bool false, .bool false], .bool false]) (by simp [results, Tryz.results100, go_sem]) rfl ⟨rfl, Below.one _ _⟩
end Go.Proofs.YtigkhmppnnljiaaGreatDoor

namespace Go.Proofs.YtigkhmppnnljiaaGreatDoor
open Go Go.RowKit Go.Deep Go.ChangeShapes Go.WideShapes Go.ChangeAt

/-- A procedure of a module. -/
structure Cod where
  v : List Int
  rest : Bool
  body : Trm
/-- A module. -/
structure Mdl where
  consts : List Dat
  codes : List Cod
  body : Trm
/-- The cells of a module's procedure. -/
def CodR (w : World) (B : Nat) (c : Cod) (cs : List Value) : Prop := ∃ vs b0 b1 b2 b3, cs = [vs, .bool c.rest, b0, b1, b2, b3] ∧ SlC w B 1 IntR c.v vs ∧ TrmR w B c.body [b0, b1, b2, b3]
/-- The value of a module. -/
def MdlR (w : World) (B : Nat) (m : Mdl) (v : Value) : Prop := ∃ c p b0 b1 b2 b3, v = .agg #[c, p, b0, b1, b2, b3] ∧ RepS w B m.consts c ∧ SlC w B 6 (CodR w B) m.codes p ∧ TrmR w B m.body [b0, b1, b2, b3]
theorem CodR.kept {w w' : World} {B : Nat} {c : Cod} {cs : List Value} (h : CodR w B c cs) (hb : Below B w w') : CodR w' B c cs := by
  obtain ⟨vs, b0, b1, b2, b3, rfl, h1, h2⟩ := h
  exact ⟨vs, b0, b1, b2, b3, rfl, h1.kept hb fun _ _ _ h => h, TrmR.kept hb _ _ h2⟩
theorem MdlR.kept {w w' : World} {B : Nat} {m : Mdl} {v : Value} (h : MdlR w B m v) (hb : Below B w w') : MdlR w' B m v := by
  obtain ⟨c, p, b0, b1, b2, b3, rfl, h1, h2, h3⟩ := h
  exact ⟨c, p, b0, b1, b2, b3, rfl, h1.kept hb, h2.kept hb fun _ _ _ h => CodR.kept h hb, TrmR.kept hb _ _ h3⟩

section
variable {H : Type} {enc : TypeId × Value → H}
end
end Go.Proofs.YtigkhmppnnljiaaGreatDoor
