/-
  The contracts of prims.Facts, Takes.
-/
import Derived.Test.YtdlhocghiaghfaaGreatDoorPrims
import Derived.Test.YtdlhocghiaghfaaGreatDoorListUp
namespace Go.Proofs.YtdlhocghiaghfaaGreatDoor
open Go.RowKit

theorem extract_table : ∀ i : Nat, i < 31 → Value.agg (tableA.extract (i * 5) (i * 5 + 5)) = factV (Prims.facts i)
  | 0, _ => by kernel_rfl
  | 1, _ => by kernel_rfl
  | 2, _ => by kernel_rfl
  | 3, _ => by kernel_rfl
  | 4, _ => by kernel_rfl
  | 5, _ => by kernel_rfl
  | 6, _ => by kernel_rfl
  | 7, _ => by kernel_rfl
  | 8, _ => by kernel_rfl
  | 9, _ => by kernel_rfl
  | 10, _ => by kernel_rfl
  | 11, _ => by kernel_rfl
  | 12, _ => by kernel_rfl
  | 13, _ => by kernel_rfl
  | 14, _ => by kernel_rfl
  | 15, _ => by kernel_rfl
  | 16, _ => by kernel_rfl
  | 17, _ => by kernel_rfl
  | 18, _ => by kernel_rfl
  | 19, _ => by kernel_rfl
  | 20, _ => by kernel_rfl
  | 21, _ => by kernel_rfl
  | 22, _ => by kernel_rfl
  | 23, _ => by kernel_rfl
  | 24, _ => by kernel_rfl
  | 25, _ => by kernel_rfl
  | 26, _ => by kernel_rfl
  | 27, _ => by kernel_rfl
  | 28, _ => by kernel_rfl
  | 29, _ => by kernel_rfl
  | 30, _ => by kernel_rfl
  | i + 31, h => absurd h (by omega)

theorem index_table (i : Nat) (hi : i < 31) (w : World) : (Instr.index 145 (.agg tableA) (.int .i64 i)).run Tryz.prog w = .ok (factV (Prims.facts i)) w := by
  rw [← extract_table i hi]
  have hn : (0 : Int) ≤ i ∧ (i : Int) < (31 : Nat) := by omega
  simp [Instr.index, run_underlying Tryz.underlying145, asIntOf, hn, part, go_sem]
  intro h; omega

set_option maxHeartbeats 4000000 in
set_option maxRecDepth 100000 in
theorem facts_any (n : Int) (h0 : -9223372036854775808 ≤ n) (h1 : n ≤ 9223372036854775807) (w : World) :
    Calls Tryz.prog 71 #[.int .i64 n] w fun e w' => e = .returned (.tuple #[factV (Prims.facts n), .bool (Prims.has n)]) ∧ Below w.heap.size w w' := by
  by_cases hn : 0 ≤ n ∧ n ≤ 30
  · obtain ⟨i, rfl⟩ : ∃ i : Nat, n = i := ⟨n.toNat, by omega⟩
    have hi : i < 31 := by omega
    have hh : Prims.has (i : Int) = true := by simp [Prims.has]; omega
    rw [hh]
    obtain ⟨F, hF⟩ : ∃ F, Prims.facts (i : Int) = F := ⟨_, rfl⟩
    rw [hF]
    have HF := Lib.hid hF
    clear hF
    have hix := fun W => index_table i hi W
    rw [HF.out] at hix
    unfold factV factC at *
    obtain ⟨f0, f1, f2, f3, f4⟩ := F
    dsimp only at *
    go_enter Tryz.func71, Tryz.ntmps71
    go_wp2_with fail
    refine (table_any _).mono ?_
    rintro e' w1 ⟨rfl, hb1⟩
    have hbox : Box5 w1 w.heap.size 106 (.string ⟨#[]⟩) (.int .i64 0) (.int .i64 0) (.bool false) (.bool false) := (hb1.block _ (by simp)).trans (Box5.new w _ _ _ _ _ _)
    obtain ⟨q0, q1, q2, q3, q4⟩ := hbox.cells
    obtain ⟨z0, z1, z2, z3, z4⟩ := hbox.free
    have hlt := hbox.lt
    have bN := hbox.set (.string f0) (.int .i64 f1) (.int .i64 f2) (.bool f3) (.bool f4)
    obtain ⟨r0, r1, r2, r3, r4⟩ := bN.cells
    have HB := Lib.hid ((one_below hb1).trans (set5_below w1 w.heap.size w.heap.size (.string f0) (.int .i64 f1) (.int .i64 f2) (.bool f3) (.bool f4) (Nat.le_refl _)))
    clear hb1 hbox bN
    go_wp2_with fail
    exact bodyPost_ret (v := .tuple #[.agg #[.string f0, .int .i64 f1, .int .i64 f2, .bool f3, .bool f4], .bool true]) (by simp [results, Tryz.results71, go_sem, r0, r1, r2, r3, r4]) rfl ⟨rfl, HB.out⟩
  · have hh : Prims.has n = false := by simp [Prims.has]; omega
    have hf : Prims.facts n = Prims.noFact := by rw [Prims.facts, if_neg hn]
    rw [hh, hf]
    rcases (by omega : n < 0 ∨ 0 ≤ n) with hlt | hge
    · go_enter Tryz.func71, Tryz.ntmps71
      go_wp2_with fail
      exact bodyPost_ret (v := .tuple #[.agg #[.string ⟨#[]⟩, .int .i64 0, .int .i64 0, .bool false, .bool false], .bool false]) (by simp [results, Tryz.results71, go_sem]) rfl ⟨rfl, (Below.refl _ _).alloc (Nat.le_refl _) _⟩
    · have hge2 : 31 ≤ n := by omega
      go_enter Tryz.func71, Tryz.ntmps71
      go_wp2_with fail
      exact bodyPost_ret (v := .tuple #[.agg #[.string ⟨#[]⟩, .int .i64 0, .int .i64 0, .bool false, .bool false], .bool false]) (by simp [results, Tryz.results71, go_sem]) rfl ⟨rfl, (Below.refl _ _).alloc (Nat.le_refl _) _⟩

theorem facts_to (n : Int) (f0 : ByteArray) (f1 f2 : Int) (f3 f4 b : Bool) (hf : Prims.facts n = ⟨f0, f1, f2, f3, f4⟩) (hb : Prims.has n = b) (h0 : -9223372036854775808 ≤ n) (h1 : n ≤ 9223372036854775807) (w : World) :
    Calls Tryz.prog 71 #[.int .i64 n] w fun e w' => e = .returned (.tuple #[.agg #[.string f0, .int .i64 f1, .int .i64 f2, .bool f3, .bool f4], .bool b]) ∧ Below w.heap.size w w' := by
  have := facts_any n h0 h1 w
  rw [hf, hb] at this
  exact this

/-- What the table's numbers are. -/
theorem fact_bounds (n : Int) : 0 ≤ (Prims.facts n).least ∧ (Prims.facts n).least ≤ 2 ∧ -1 ≤ (Prims.facts n).most ∧ (Prims.facts n).most ≤ 2 := by
  unfold Prims.facts
  split
  · have hall : ∀ i : Nat, i < 31 → (0 ≤ (Prims.table.getD i Prims.noFact).least ∧ (Prims.table.getD i Prims.noFact).least ≤ 2 ∧ -1 ≤ (Prims.table.getD i Prims.noFact).most ∧ (Prims.table.getD i Prims.noFact).most ≤ 2) := by decide +kernel
    exact hall n.toNat (by omega)
  · decide

end Go.Proofs.YtdlhocghiaghfaaGreatDoor
