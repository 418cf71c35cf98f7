/-
  The contracts of corbelref05.Facts, Takes.
-/
import Derived.Test.YtnpiekniignfcaaGreatDoorFacts
import Derived.Test.YtnpiekniignfcaaGreatDoorRights
import Derived.Deep.Cut
namespace Go.Proofs.YtnpiekniignfcaaGreatDoor
open Go.RowKit

def namesA : Array Value := #[.string ⟨#[43]⟩, .string ⟨#[45]⟩, .string ⟨#[42]⟩, .string ⟨#[47]⟩, .string ⟨#[61]⟩, .string ⟨#[60]⟩, .string ⟨#[101, 113, 63]⟩, .string ⟨#[101, 113, 117, 97, 108, 63]⟩, .string ⟨#[110, 111, 116]⟩, .string ⟨#[110, 117, 108, 108, 63]⟩, .string ⟨#[112, 97, 105, 114, 63]⟩, .string ⟨#[110, 117, 109, 98, 101, 114, 63]⟩, .string ⟨#[115, 121, 109, 98, 111, 108, 63]⟩, .string ⟨#[98, 111, 111, 108, 101, 97, 110, 63]⟩, .string ⟨#[115, 116, 114, 105, 110, 103, 63]⟩, .string ⟨#[118, 101, 99, 116, 111, 114, 63]⟩, .string ⟨#[112, 114, 111, 99, 101, 100, 117, 114, 101, 63]⟩, .string ⟨#[99, 111, 110, 115]⟩, .string ⟨#[99, 97, 114]⟩, .string ⟨#[99, 100, 114]⟩, .string ⟨#[108, 105, 115, 116]⟩, .string ⟨#[118, 101, 99, 116, 111, 114]⟩, .string ⟨#[118, 101, 99, 116, 111, 114, 45, 114, 101, 102]⟩, .string ⟨#[118, 101, 99, 116, 111, 114, 45, 108, 101, 110, 103, 116, 104]⟩, .string ⟨#[108, 101, 110, 103, 116, 104]⟩, .string ⟨#[118, 111, 105, 100]⟩, .string ⟨#[100, 105, 115, 112, 108, 97, 121]⟩, .string ⟨#[110, 101, 119, 108, 105, 110, 101]⟩, .string ⟨#[114, 97, 105, 115, 101]⟩, .string ⟨#[99, 97, 108, 108, 47, 99, 99]⟩, .string ⟨#[97, 112, 112, 108, 121]⟩]

set_option maxHeartbeats 4000000 in
set_option maxRecDepth 100000 in
theorem rfacts_in (i : Nat) (hi : i < 31) (w : World) :
    Calls Tryz.prog 21 #[.int .i64 i] w fun e w' => e = .returned (.tuple #[factV (Prims.facts i), .bool true]) ∧ Below w.heap.size w w' := by
  obtain ⟨F, hF⟩ : ∃ F, factV (Prims.facts i) = F := ⟨_, rfl⟩
  rw [hF]
  have HF := Lib.hid hF
  clear hF
  go_enter Tryz.func21, Tryz.ntmps21
  go_upto_region 2 with fail
  obtain ⟨W2, hW⟩ : ∃ W2, (w.alloc (.cells #[.string ⟨#[]⟩, .int .i64 0, .int .i64 0, .bool false, .bool false] 43)).alloc (.cells namesA 9) = W2 := ⟨_, rfl⟩
  have hn : ∀ j v, namesA[j]? = some v → W2.cell? ⟨w.heap.size + 1, j, none⟩ = some v := fun j v h => by rw [← hW]; exact box_cell2 _ _ _ _ _ h
  have hbox : Box5 W2 w.heap.size 43 (.string ⟨#[]⟩) (.int .i64 0) (.int .i64 0) (.bool false) (.bool false) := by rw [← hW]; exact (Box5.new w _ _ _ _ _ _).alloc _
  have HB := Lib.hid (show Below w.heap.size w W2 by rw [← hW]; exact ((Below.refl _ _).alloc (Nat.le_refl _) _).alloc (by simp) _)
  unfold namesA at hW
  rw [hW]
  have hsz : w.heap.size + 1 < W2.heap.size := by rw [← hW]; simp
  clear hW
  have HN := Lib.hid hn
  obtain ⟨q0, q1, q2, q3, q4⟩ := hbox.cells
  obtain ⟨z0, z1, z2, z3, z4⟩ := hbox.free
  have hlt := hbox.lt
  have HX := Lib.hid hbox
  clear hn hbox
  match i, hi with
  | 0, _ =>
    have hc : W2.cell? ⟨w.heap.size + 1, 0, none⟩ = some (.string ⟨#[43]⟩) := HN.out 0 _ rfl
    go_wp2_with fail
    obtain ⟨r0, r1, r2, r3, r4⟩ := (HX.out.set (.string ⟨#[43]⟩) (.int .i64 0) (.int .i64 (-1)) (.bool true) (.bool true)).cells
    refine bodyPost_ret (v := .tuple #[.agg #[.string ⟨#[43]⟩, .int .i64 0, .int .i64 (-1), .bool true, .bool true], .bool true]) (by simp [results, Tryz.results21, go_sem, r0, r1, r2, r3, r4, hlt]) rfl ⟨by rw [← HF.out]; kernel_rfl, ?_⟩
    first | exact (HB.out.trans (set5_below W2 w.heap.size w.heap.size _ _ _ _ _ (Nat.le_refl _))).alloc (by simp; omega) _ | exact HB.out.trans (set5_below W2 w.heap.size w.heap.size _ _ _ _ _ (Nat.le_refl _)) | fail
  | 1, _ =>
    have hc : W2.cell? ⟨w.heap.size + 1, 1, none⟩ = some (.string ⟨#[45]⟩) := HN.out 1 _ rfl
    go_wp2_with fail
    obtain ⟨r0, r1, r2, r3, r4⟩ := (HX.out.set (.string ⟨#[45]⟩) (.int .i64 1) (.int .i64 (-1)) (.bool true) (.bool true)).cells
    refine bodyPost_ret (v := .tuple #[.agg #[.string ⟨#[45]⟩, .int .i64 1, .int .i64 (-1), .bool true, .bool true], .bool true]) (by simp [results, Tryz.results21, go_sem, r0, r1, r2, r3, r4, hlt]) rfl ⟨by rw [← HF.out]; kernel_rfl, ?_⟩
    first | exact (HB.out.trans (set5_below W2 w.heap.size w.heap.size _ _ _ _ _ (Nat.le_refl _))).alloc (by simp; omega) _ | exact HB.out.trans (set5_below W2 w.heap.size w.heap.size _ _ _ _ _ (Nat.le_refl _)) | fail
  | 2, _ =>
    have hc : W2.cell? ⟨w.heap.size + 1, 2, none⟩ = some (.string ⟨#[42]⟩) := HN.out 2 _ rfl
    go_wp2_with fail
    obtain ⟨r0, r1, r2, r3, r4⟩ := (HX.out.set (.string ⟨#[42]⟩) (.int .i64 0) (.int .i64 (-1)) (.bool true) (.bool true)).cells
    refine bodyPost_ret (v := .tuple #[.agg #[.string ⟨#[42]⟩, .int .i64 0, .int .i64 (-1), .bool true, .bool true], .bool true]) (by simp [results, Tryz.results21, go_sem, r0, r1, r2, r3, r4, hlt]) rfl ⟨by rw [← HF.out]; kernel_rfl, ?_⟩
    first | exact (HB.out.trans (set5_below W2 w.heap.size w.heap.size _ _ _ _ _ (Nat.le_refl _))).alloc (by simp; omega) _ | exact HB.out.trans (set5_below W2 w.heap.size w.heap.size _ _ _ _ _ (Nat.le_refl _)) | fail
  | 3, _ =>
    have hc : W2.cell? ⟨w.heap.size + 1, 3, none⟩ = some (.string ⟨#[47]⟩) := HN.out 3 _ rfl
    go_wp2_with fail
    obtain ⟨r0, r1, r2, r3, r4⟩ := (HX.out.set (.string ⟨#[47]⟩) (.int .i64 1) (.int .i64 (-1)) (.bool true) (.bool true)).cells
    refine bodyPost_ret (v := .tuple #[.agg #[.string ⟨#[47]⟩, .int .i64 1, .int .i64 (-1), .bool true, .bool true], .bool true]) (by simp [results, Tryz.results21, go_sem, r0, r1, r2, r3, r4, hlt]) rfl ⟨by rw [← HF.out]; kernel_rfl, ?_⟩
    first | exact (HB.out.trans (set5_below W2 w.heap.size w.heap.size _ _ _ _ _ (Nat.le_refl _))).alloc (by simp; omega) _ | exact HB.out.trans (set5_below W2 w.heap.size w.heap.size _ _ _ _ _ (Nat.le_refl _)) | fail
  | 4, _ =>
    have hc : W2.cell? ⟨w.heap.size + 1, 4, none⟩ = some (.string ⟨#[61]⟩) := HN.out 4 _ rfl
    go_wp2_with fail
    obtain ⟨r0, r1, r2, r3, r4⟩ := (HX.out.set (.string ⟨#[61]⟩) (.int .i64 2) (.int .i64 (2)) (.bool true) (.bool true)).cells
    refine bodyPost_ret (v := .tuple #[.agg #[.string ⟨#[61]⟩, .int .i64 2, .int .i64 (2), .bool true, .bool true], .bool true]) (by simp [results, Tryz.results21, go_sem, r0, r1, r2, r3, r4, hlt]) rfl ⟨by rw [← HF.out]; kernel_rfl, ?_⟩
    first | exact (HB.out.trans (set5_below W2 w.heap.size w.heap.size _ _ _ _ _ (Nat.le_refl _))).alloc (by simp; omega) _ | exact HB.out.trans (set5_below W2 w.heap.size w.heap.size _ _ _ _ _ (Nat.le_refl _)) | fail
  | 5, _ =>
    have hc : W2.cell? ⟨w.heap.size + 1, 5, none⟩ = some (.string ⟨#[60]⟩) := HN.out 5 _ rfl
    go_wp2_with fail
    obtain ⟨r0, r1, r2, r3, r4⟩ := (HX.out.set (.string ⟨#[60]⟩) (.int .i64 2) (.int .i64 (2)) (.bool true) (.bool true)).cells
    refine bodyPost_ret (v := .tuple #[.agg #[.string ⟨#[60]⟩, .int .i64 2, .int .i64 (2), .bool true, .bool true], .bool true]) (by simp [results, Tryz.results21, go_sem, r0, r1, r2, r3, r4, hlt]) rfl ⟨by rw [← HF.out]; kernel_rfl, ?_⟩
    first | exact (HB.out.trans (set5_below W2 w.heap.size w.heap.size _ _ _ _ _ (Nat.le_refl _))).alloc (by simp; omega) _ | exact HB.out.trans (set5_below W2 w.heap.size w.heap.size _ _ _ _ _ (Nat.le_refl _)) | fail
  | 6, _ =>
    have hc : W2.cell? ⟨w.heap.size + 1, 6, none⟩ = some (.string ⟨#[101, 113, 63]⟩) := HN.out 6 _ rfl
    go_wp2_with fail
    obtain ⟨r0, r1, r2, r3, r4⟩ := (HX.out.set (.string ⟨#[101, 113, 63]⟩) (.int .i64 2) (.int .i64 (2)) (.bool true) (.bool true)).cells
    refine bodyPost_ret (v := .tuple #[.agg #[.string ⟨#[101, 113, 63]⟩, .int .i64 2, .int .i64 (2), .bool true, .bool true], .bool true]) (by simp [results, Tryz.results21, go_sem, r0, r1, r2, r3, r4, hlt]) rfl ⟨by rw [← HF.out]; kernel_rfl, ?_⟩
    first | exact (HB.out.trans (set5_below W2 w.heap.size w.heap.size _ _ _ _ _ (Nat.le_refl _))).alloc (by simp; omega) _ | exact HB.out.trans (set5_below W2 w.heap.size w.heap.size _ _ _ _ _ (Nat.le_refl _)) | fail
  | 7, _ =>
    have hc : W2.cell? ⟨w.heap.size + 1, 7, none⟩ = some (.string ⟨#[101, 113, 117, 97, 108, 63]⟩) := HN.out 7 _ rfl
    go_wp2_with fail
    obtain ⟨r0, r1, r2, r3, r4⟩ := (HX.out.set (.string ⟨#[101, 113, 117, 97, 108, 63]⟩) (.int .i64 2) (.int .i64 (2)) (.bool true) (.bool true)).cells
    refine bodyPost_ret (v := .tuple #[.agg #[.string ⟨#[101, 113, 117, 97, 108, 63]⟩, .int .i64 2, .int .i64 (2), .bool true, .bool true], .bool true]) (by simp [results, Tryz.results21, go_sem, r0, r1, r2, r3, r4, hlt]) rfl ⟨by rw [← HF.out]; kernel_rfl, ?_⟩
    first | exact (HB.out.trans (set5_below W2 w.heap.size w.heap.size _ _ _ _ _ (Nat.le_refl _))).alloc (by simp; omega) _ | exact HB.out.trans (set5_below W2 w.heap.size w.heap.size _ _ _ _ _ (Nat.le_refl _)) | fail
  | 8, _ =>
    have hc : W2.cell? ⟨w.heap.size + 1, 8, none⟩ = some (.string ⟨#[110, 111, 116]⟩) := HN.out 8 _ rfl
    go_wp2_with fail
    obtain ⟨r0, r1, r2, r3, r4⟩ := (HX.out.set (.string ⟨#[110, 111, 116]⟩) (.int .i64 1) (.int .i64 (1)) (.bool true) (.bool true)).cells
    refine bodyPost_ret (v := .tuple #[.agg #[.string ⟨#[110, 111, 116]⟩, .int .i64 1, .int .i64 (1), .bool true, .bool true], .bool true]) (by simp [results, Tryz.results21, go_sem, r0, r1, r2, r3, r4, hlt]) rfl ⟨by rw [← HF.out]; kernel_rfl, ?_⟩
    first | exact (HB.out.trans (set5_below W2 w.heap.size w.heap.size _ _ _ _ _ (Nat.le_refl _))).alloc (by simp; omega) _ | exact HB.out.trans (set5_below W2 w.heap.size w.heap.size _ _ _ _ _ (Nat.le_refl _)) | fail
  | 9, _ =>
    have hc : W2.cell? ⟨w.heap.size + 1, 9, none⟩ = some (.string ⟨#[110, 117, 108, 108, 63]⟩) := HN.out 9 _ rfl
    go_wp2_with fail
    obtain ⟨r0, r1, r2, r3, r4⟩ := (HX.out.set (.string ⟨#[110, 117, 108, 108, 63]⟩) (.int .i64 1) (.int .i64 (1)) (.bool true) (.bool true)).cells
    refine bodyPost_ret (v := .tuple #[.agg #[.string ⟨#[110, 117, 108, 108, 63]⟩, .int .i64 1, .int .i64 (1), .bool true, .bool true], .bool true]) (by simp [results, Tryz.results21, go_sem, r0, r1, r2, r3, r4, hlt]) rfl ⟨by rw [← HF.out]; kernel_rfl, ?_⟩
    first | exact (HB.out.trans (set5_below W2 w.heap.size w.heap.size _ _ _ _ _ (Nat.le_refl _))).alloc (by simp; omega) _ | exact HB.out.trans (set5_below W2 w.heap.size w.heap.size _ _ _ _ _ (Nat.le_refl _)) | fail
  | 10, _ =>
    have hc : W2.cell? ⟨w.heap.size + 1, 10, none⟩ = some (.string ⟨#[112, 97, 105, 114, 63]⟩) := HN.out 10 _ rfl
    go_wp2_with fail
    obtain ⟨r0, r1, r2, r3, r4⟩ := (HX.out.set (.string ⟨#[112, 97, 105, 114, 63]⟩) (.int .i64 1) (.int .i64 (1)) (.bool true) (.bool true)).cells
    refine bodyPost_ret (v := .tuple #[.agg #[.string ⟨#[112, 97, 105, 114, 63]⟩, .int .i64 1, .int .i64 (1), .bool true, .bool true], .bool true]) (by simp [results, Tryz.results21, go_sem, r0, r1, r2, r3, r4, hlt]) rfl ⟨by rw [← HF.out]; kernel_rfl, ?_⟩
    first | exact (HB.out.trans (set5_below W2 w.heap.size w.heap.size _ _ _ _ _ (Nat.le_refl _))).alloc (by simp; omega) _ | exact HB.out.trans (set5_below W2 w.heap.size w.heap.size _ _ _ _ _ (Nat.le_refl _)) | fail
  | 11, _ =>
    have hc : W2.cell? ⟨w.heap.size + 1, 11, none⟩ = some (.string ⟨#[110, 117, 109, 98, 101, 114, 63]⟩) := HN.out 11 _ rfl
    go_wp2_with fail
    obtain ⟨r0, r1, r2, r3, r4⟩ := (HX.out.set (.string ⟨#[110, 117, 109, 98, 101, 114, 63]⟩) (.int .i64 1) (.int .i64 (1)) (.bool true) (.bool true)).cells
    refine bodyPost_ret (v := .tuple #[.agg #[.string ⟨#[110, 117, 109, 98, 101, 114, 63]⟩, .int .i64 1, .int .i64 (1), .bool true, .bool true], .bool true]) (by simp [results, Tryz.results21, go_sem, r0, r1, r2, r3, r4, hlt]) rfl ⟨by rw [← HF.out]; kernel_rfl, ?_⟩
    first | exact (HB.out.trans (set5_below W2 w.heap.size w.heap.size _ _ _ _ _ (Nat.le_refl _))).alloc (by simp; omega) _ | exact HB.out.trans (set5_below W2 w.heap.size w.heap.size _ _ _ _ _ (Nat.le_refl _)) | fail
  | 12, _ =>
    have hc : W2.cell? ⟨w.heap.size + 1, 12, none⟩ = some (.string ⟨#[115, 121, 109, 98, 111, 108, 63]⟩) := HN.out 12 _ rfl
    go_wp2_with fail
    obtain ⟨r0, r1, r2, r3, r4⟩ := (HX.out.set (.string ⟨#[115, 121, 109, 98, 111, 108, 63]⟩) (.int .i64 1) (.int .i64 (1)) (.bool true) (.bool true)).cells
    refine bodyPost_ret (v := .tuple #[.agg #[.string ⟨#[115, 121, 109, 98, 111, 108, 63]⟩, .int .i64 1, .int .i64 (1), .bool true, .bool true], .bool true]) (by simp [results, Tryz.results21, go_sem, r0, r1, r2, r3, r4, hlt]) rfl ⟨by rw [← HF.out]; kernel_rfl, ?_⟩
    first | exact (HB.out.trans (set5_below W2 w.heap.size w.heap.size _ _ _ _ _ (Nat.le_refl _))).alloc (by simp; omega) _ | exact HB.out.trans (set5_below W2 w.heap.size w.heap.size _ _ _ _ _ (Nat.le_refl _)) | fail
  | 13, _ =>
    have hc : W2.cell? ⟨w.heap.size + 1, 13, none⟩ = some (.string ⟨#[98, 111, 111, 108, 101, 97, 110, 63]⟩) := HN.out 13 _ rfl
    go_wp2_with fail
    obtain ⟨r0, r1, r2, r3, r4⟩ := (HX.out.set (.string ⟨#[98, 111, 111, 108, 101, 97, 110, 63]⟩) (.int .i64 1) (.int .i64 (1)) (.bool true) (.bool true)).cells
    refine bodyPost_ret (v := .tuple #[.agg #[.string ⟨#[98, 111, 111, 108, 101, 97, 110, 63]⟩, .int .i64 1, .int .i64 (1), .bool true, .bool true], .bool true]) (by simp [results, Tryz.results21, go_sem, r0, r1, r2, r3, r4, hlt]) rfl ⟨by rw [← HF.out]; kernel_rfl, ?_⟩
    first | exact (HB.out.trans (set5_below W2 w.heap.size w.heap.size _ _ _ _ _ (Nat.le_refl _))).alloc (by simp; omega) _ | exact HB.out.trans (set5_below W2 w.heap.size w.heap.size _ _ _ _ _ (Nat.le_refl _)) | fail
  | 14, _ =>
    have hc : W2.cell? ⟨w.heap.size + 1, 14, none⟩ = some (.string ⟨#[115, 116, 114, 105, 110, 103, 63]⟩) := HN.out 14 _ rfl
    go_wp2_with fail
    obtain ⟨r0, r1, r2, r3, r4⟩ := (HX.out.set (.string ⟨#[115, 116, 114, 105, 110, 103, 63]⟩) (.int .i64 1) (.int .i64 (1)) (.bool true) (.bool true)).cells
    refine bodyPost_ret (v := .tuple #[.agg #[.string ⟨#[115, 116, 114, 105, 110, 103, 63]⟩, .int .i64 1, .int .i64 (1), .bool true, .bool true], .bool true]) (by simp [results, Tryz.results21, go_sem, r0, r1, r2, r3, r4, hlt]) rfl ⟨by rw [← HF.out]; kernel_rfl, ?_⟩
    first | exact (HB.out.trans (set5_below W2 w.heap.size w.heap.size _ _ _ _ _ (Nat.le_refl _))).alloc (by simp; omega) _ | exact HB.out.trans (set5_below W2 w.heap.size w.heap.size _ _ _ _ _ (Nat.le_refl _)) | fail
  | 15, _ =>
    have hc : W2.cell? ⟨w.heap.size + 1, 15, none⟩ = some (.string ⟨#[118, 101, 99, 116, 111, 114, 63]⟩) := HN.out 15 _ rfl
    go_wp2_with fail
    obtain ⟨r0, r1, r2, r3, r4⟩ := (HX.out.set (.string ⟨#[118, 101, 99, 116, 111, 114, 63]⟩) (.int .i64 1) (.int .i64 (1)) (.bool true) (.bool true)).cells
    refine bodyPost_ret (v := .tuple #[.agg #[.string ⟨#[118, 101, 99, 116, 111, 114, 63]⟩, .int .i64 1, .int .i64 (1), .bool true, .bool true], .bool true]) (by simp [results, Tryz.results21, go_sem, r0, r1, r2, r3, r4, hlt]) rfl ⟨by rw [← HF.out]; kernel_rfl, ?_⟩
    first | exact (HB.out.trans (set5_below W2 w.heap.size w.heap.size _ _ _ _ _ (Nat.le_refl _))).alloc (by simp; omega) _ | exact HB.out.trans (set5_below W2 w.heap.size w.heap.size _ _ _ _ _ (Nat.le_refl _)) | fail
  | 16, _ =>
    have hc : W2.cell? ⟨w.heap.size + 1, 16, none⟩ = some (.string ⟨#[112, 114, 111, 99, 101, 100, 117, 114, 101, 63]⟩) := HN.out 16 _ rfl
    go_wp2_with fail
    obtain ⟨r0, r1, r2, r3, r4⟩ := (HX.out.set (.string ⟨#[112, 114, 111, 99, 101, 100, 117, 114, 101, 63]⟩) (.int .i64 1) (.int .i64 (1)) (.bool true) (.bool true)).cells
    refine bodyPost_ret (v := .tuple #[.agg #[.string ⟨#[112, 114, 111, 99, 101, 100, 117, 114, 101, 63]⟩, .int .i64 1, .int .i64 (1), .bool true, .bool true], .bool true]) (by simp [results, Tryz.results21, go_sem, r0, r1, r2, r3, r4, hlt]) rfl ⟨by rw [← HF.out]; kernel_rfl, ?_⟩
    first | exact (HB.out.trans (set5_below W2 w.heap.size w.heap.size _ _ _ _ _ (Nat.le_refl _))).alloc (by simp; omega) _ | exact HB.out.trans (set5_below W2 w.heap.size w.heap.size _ _ _ _ _ (Nat.le_refl _)) | fail
  | 17, _ =>
    have hc : W2.cell? ⟨w.heap.size + 1, 17, none⟩ = some (.string ⟨#[99, 111, 110, 115]⟩) := HN.out 17 _ rfl
    go_wp2_with fail
    obtain ⟨r0, r1, r2, r3, r4⟩ := (HX.out.set (.string ⟨#[99, 111, 110, 115]⟩) (.int .i64 2) (.int .i64 (2)) (.bool true) (.bool false)).cells
    refine bodyPost_ret (v := .tuple #[.agg #[.string ⟨#[99, 111, 110, 115]⟩, .int .i64 2, .int .i64 (2), .bool true, .bool false], .bool true]) (by simp [results, Tryz.results21, go_sem, r0, r1, r2, r3, r4, hlt]) rfl ⟨by rw [← HF.out]; kernel_rfl, ?_⟩
    first | exact (HB.out.trans (set5_below W2 w.heap.size w.heap.size _ _ _ _ _ (Nat.le_refl _))).alloc (by simp; omega) _ | exact HB.out.trans (set5_below W2 w.heap.size w.heap.size _ _ _ _ _ (Nat.le_refl _)) | fail
  | 18, _ =>
    have hc : W2.cell? ⟨w.heap.size + 1, 18, none⟩ = some (.string ⟨#[99, 97, 114]⟩) := HN.out 18 _ rfl
    go_wp2_with fail
    obtain ⟨r0, r1, r2, r3, r4⟩ := (HX.out.set (.string ⟨#[99, 97, 114]⟩) (.int .i64 1) (.int .i64 (1)) (.bool true) (.bool true)).cells
    refine bodyPost_ret (v := .tuple #[.agg #[.string ⟨#[99, 97, 114]⟩, .int .i64 1, .int .i64 (1), .bool true, .bool true], .bool true]) (by simp [results, Tryz.results21, go_sem, r0, r1, r2, r3, r4, hlt]) rfl ⟨by rw [← HF.out]; kernel_rfl, ?_⟩
    first | exact (HB.out.trans (set5_below W2 w.heap.size w.heap.size _ _ _ _ _ (Nat.le_refl _))).alloc (by simp; omega) _ | exact HB.out.trans (set5_below W2 w.heap.size w.heap.size _ _ _ _ _ (Nat.le_refl _)) | fail
  | 19, _ =>
    have hc : W2.cell? ⟨w.heap.size + 1, 19, none⟩ = some (.string ⟨#[99, 100, 114]⟩) := HN.out 19 _ rfl
    go_wp2_with fail
    obtain ⟨r0, r1, r2, r3, r4⟩ := (HX.out.set (.string ⟨#[99, 100, 114]⟩) (.int .i64 1) (.int .i64 (1)) (.bool true) (.bool true)).cells
    refine bodyPost_ret (v := .tuple #[.agg #[.string ⟨#[99, 100, 114]⟩, .int .i64 1, .int .i64 (1), .bool true, .bool true], .bool true]) (by simp [results, Tryz.results21, go_sem, r0, r1, r2, r3, r4, hlt]) rfl ⟨by rw [← HF.out]; kernel_rfl, ?_⟩
    first | exact (HB.out.trans (set5_below W2 w.heap.size w.heap.size _ _ _ _ _ (Nat.le_refl _))).alloc (by simp; omega) _ | exact HB.out.trans (set5_below W2 w.heap.size w.heap.size _ _ _ _ _ (Nat.le_refl _)) | fail
  | 20, _ =>
    have hc : W2.cell? ⟨w.heap.size + 1, 20, none⟩ = some (.string ⟨#[108, 105, 115, 116]⟩) := HN.out 20 _ rfl
    go_wp2_with fail
    obtain ⟨r0, r1, r2, r3, r4⟩ := (HX.out.set (.string ⟨#[108, 105, 115, 116]⟩) (.int .i64 0) (.int .i64 (-1)) (.bool true) (.bool false)).cells
    refine bodyPost_ret (v := .tuple #[.agg #[.string ⟨#[108, 105, 115, 116]⟩, .int .i64 0, .int .i64 (-1), .bool true, .bool false], .bool true]) (by simp [results, Tryz.results21, go_sem, r0, r1, r2, r3, r4, hlt]) rfl ⟨by rw [← HF.out]; kernel_rfl, ?_⟩
    first | exact (HB.out.trans (set5_below W2 w.heap.size w.heap.size _ _ _ _ _ (Nat.le_refl _))).alloc (by simp; omega) _ | exact HB.out.trans (set5_below W2 w.heap.size w.heap.size _ _ _ _ _ (Nat.le_refl _)) | fail
  | 21, _ =>
    have hc : W2.cell? ⟨w.heap.size + 1, 21, none⟩ = some (.string ⟨#[118, 101, 99, 116, 111, 114]⟩) := HN.out 21 _ rfl
    go_wp2_with fail
    obtain ⟨r0, r1, r2, r3, r4⟩ := (HX.out.set (.string ⟨#[118, 101, 99, 116, 111, 114]⟩) (.int .i64 0) (.int .i64 (-1)) (.bool true) (.bool false)).cells
    refine bodyPost_ret (v := .tuple #[.agg #[.string ⟨#[118, 101, 99, 116, 111, 114]⟩, .int .i64 0, .int .i64 (-1), .bool true, .bool false], .bool true]) (by simp [results, Tryz.results21, go_sem, r0, r1, r2, r3, r4, hlt]) rfl ⟨by rw [← HF.out]; kernel_rfl, ?_⟩
    first | exact (HB.out.trans (set5_below W2 w.heap.size w.heap.size _ _ _ _ _ (Nat.le_refl _))).alloc (by simp; omega) _ | exact HB.out.trans (set5_below W2 w.heap.size w.heap.size _ _ _ _ _ (Nat.le_refl _)) | fail
  | 22, _ =>
    have hc : W2.cell? ⟨w.heap.size + 1, 22, none⟩ = some (.string ⟨#[118, 101, 99, 116, 111, 114, 45, 114, 101, 102]⟩) := HN.out 22 _ rfl
    go_wp2_with fail
    obtain ⟨r0, r1, r2, r3, r4⟩ := (HX.out.set (.string ⟨#[118, 101, 99, 116, 111, 114, 45, 114, 101, 102]⟩) (.int .i64 2) (.int .i64 (2)) (.bool true) (.bool true)).cells
    refine bodyPost_ret (v := .tuple #[.agg #[.string ⟨#[118, 101, 99, 116, 111, 114, 45, 114, 101, 102]⟩, .int .i64 2, .int .i64 (2), .bool true, .bool true], .bool true]) (by simp [results, Tryz.results21, go_sem, r0, r1, r2, r3, r4, hlt]) rfl ⟨by rw [← HF.out]; kernel_rfl, ?_⟩
    first | exact (HB.out.trans (set5_below W2 w.heap.size w.heap.size _ _ _ _ _ (Nat.le_refl _))).alloc (by simp; omega) _ | exact HB.out.trans (set5_below W2 w.heap.size w.heap.size _ _ _ _ _ (Nat.le_refl _)) | fail
  | 23, _ =>
    have hc : W2.cell? ⟨w.heap.size + 1, 23, none⟩ = some (.string ⟨#[118, 101, 99, 116, 111, 114, 45, 108, 101, 110, 103, 116, 104]⟩) := HN.out 23 _ rfl
    go_wp2_with fail
    obtain ⟨r0, r1, r2, r3, r4⟩ := (HX.out.set (.string ⟨#[118, 101, 99, 116, 111, 114, 45, 108, 101, 110, 103, 116, 104]⟩) (.int .i64 1) (.int .i64 (1)) (.bool true) (.bool true)).cells
    refine bodyPost_ret (v := .tuple #[.agg #[.string ⟨#[118, 101, 99, 116, 111, 114, 45, 108, 101, 110, 103, 116, 104]⟩, .int .i64 1, .int .i64 (1), .bool true, .bool true], .bool true]) (by simp [results, Tryz.results21, go_sem, r0, r1, r2, r3, r4, hlt]) rfl ⟨by rw [← HF.out]; kernel_rfl, ?_⟩
    first | exact (HB.out.trans (set5_below W2 w.heap.size w.heap.size _ _ _ _ _ (Nat.le_refl _))).alloc (by simp; omega) _ | exact HB.out.trans (set5_below W2 w.heap.size w.heap.size _ _ _ _ _ (Nat.le_refl _)) | fail
  | 24, _ =>
    have hc : W2.cell? ⟨w.heap.size + 1, 24, none⟩ = some (.string ⟨#[108, 101, 110, 103, 116, 104]⟩) := HN.out 24 _ rfl
    go_wp2_with fail
    obtain ⟨r0, r1, r2, r3, r4⟩ := (HX.out.set (.string ⟨#[108, 101, 110, 103, 116, 104]⟩) (.int .i64 1) (.int .i64 (1)) (.bool true) (.bool true)).cells
    refine bodyPost_ret (v := .tuple #[.agg #[.string ⟨#[108, 101, 110, 103, 116, 104]⟩, .int .i64 1, .int .i64 (1), .bool true, .bool true], .bool true]) (by simp [results, Tryz.results21, go_sem, r0, r1, r2, r3, r4, hlt]) rfl ⟨by rw [← HF.out]; kernel_rfl, ?_⟩
    first | exact (HB.out.trans (set5_below W2 w.heap.size w.heap.size _ _ _ _ _ (Nat.le_refl _))).alloc (by simp; omega) _ | exact HB.out.trans (set5_below W2 w.heap.size w.heap.size _ _ _ _ _ (Nat.le_refl _)) | fail
  | 25, _ =>
    have hc : W2.cell? ⟨w.heap.size + 1, 25, none⟩ = some (.string ⟨#[118, 111, 105, 100]⟩) := HN.out 25 _ rfl
    go_wp2_with fail
    obtain ⟨r0, r1, r2, r3, r4⟩ := (HX.out.set (.string ⟨#[118, 111, 105, 100]⟩) (.int .i64 0) (.int .i64 (0)) (.bool true) (.bool true)).cells
    refine bodyPost_ret (v := .tuple #[.agg #[.string ⟨#[118, 111, 105, 100]⟩, .int .i64 0, .int .i64 (0), .bool true, .bool true], .bool true]) (by simp [results, Tryz.results21, go_sem, r0, r1, r2, r3, r4, hlt]) rfl ⟨by rw [← HF.out]; kernel_rfl, ?_⟩
    first | exact (HB.out.trans (set5_below W2 w.heap.size w.heap.size _ _ _ _ _ (Nat.le_refl _))).alloc (by simp; omega) _ | exact HB.out.trans (set5_below W2 w.heap.size w.heap.size _ _ _ _ _ (Nat.le_refl _)) | fail
  | 26, _ =>
    have hc : W2.cell? ⟨w.heap.size + 1, 26, none⟩ = some (.string ⟨#[100, 105, 115, 112, 108, 97, 121]⟩) := HN.out 26 _ rfl
    go_wp2_with fail
    obtain ⟨r0, r1, r2, r3, r4⟩ := (HX.out.set (.string ⟨#[100, 105, 115, 112, 108, 97, 121]⟩) (.int .i64 1) (.int .i64 (1)) (.bool false) (.bool false)).cells
    refine bodyPost_ret (v := .tuple #[.agg #[.string ⟨#[100, 105, 115, 112, 108, 97, 121]⟩, .int .i64 1, .int .i64 (1), .bool false, .bool false], .bool true]) (by simp [results, Tryz.results21, go_sem, r0, r1, r2, r3, r4, hlt]) rfl ⟨by rw [← HF.out]; kernel_rfl, ?_⟩
    first | exact (HB.out.trans (set5_below W2 w.heap.size w.heap.size _ _ _ _ _ (Nat.le_refl _))).alloc (by simp; omega) _ | exact HB.out.trans (set5_below W2 w.heap.size w.heap.size _ _ _ _ _ (Nat.le_refl _)) | fail
  | 27, _ =>
    have hc : W2.cell? ⟨w.heap.size + 1, 27, none⟩ = some (.string ⟨#[110, 101, 119, 108, 105, 110, 101]⟩) := HN.out 27 _ rfl
    go_wp2_with fail
    obtain ⟨r0, r1, r2, r3, r4⟩ := (HX.out.set (.string ⟨#[110, 101, 119, 108, 105, 110, 101]⟩) (.int .i64 0) (.int .i64 (0)) (.bool false) (.bool false)).cells
    refine bodyPost_ret (v := .tuple #[.agg #[.string ⟨#[110, 101, 119, 108, 105, 110, 101]⟩, .int .i64 0, .int .i64 (0), .bool false, .bool false], .bool true]) (by simp [results, Tryz.results21, go_sem, r0, r1, r2, r3, r4, hlt]) rfl ⟨by rw [← HF.out]; kernel_rfl, ?_⟩
    first | exact (HB.out.trans (set5_below W2 w.heap.size w.heap.size _ _ _ _ _ (Nat.le_refl _))).alloc (by simp; omega) _ | exact HB.out.trans (set5_below W2 w.heap.size w.heap.size _ _ _ _ _ (Nat.le_refl _)) | fail
  | 28, _ =>
    have hc : W2.cell? ⟨w.heap.size + 1, 28, none⟩ = some (.string ⟨#[114, 97, 105, 115, 101]⟩) := HN.out 28 _ rfl
    go_wp2_with fail
    obtain ⟨r0, r1, r2, r3, r4⟩ := (HX.out.set (.string ⟨#[114, 97, 105, 115, 101]⟩) (.int .i64 1) (.int .i64 (1)) (.bool false) (.bool false)).cells
    refine bodyPost_ret (v := .tuple #[.agg #[.string ⟨#[114, 97, 105, 115, 101]⟩, .int .i64 1, .int .i64 (1), .bool false, .bool false], .bool true]) (by simp [results, Tryz.results21, go_sem, r0, r1, r2, r3, r4, hlt]) rfl ⟨by rw [← HF.out]; kernel_rfl, ?_⟩
    first | exact (HB.out.trans (set5_below W2 w.heap.size w.heap.size _ _ _ _ _ (Nat.le_refl _))).alloc (by simp; omega) _ | exact HB.out.trans (set5_below W2 w.heap.size w.heap.size _ _ _ _ _ (Nat.le_refl _)) | fail
  | 29, _ =>
    have hc : W2.cell? ⟨w.heap.size + 1, 29, none⟩ = some (.string ⟨#[99, 97, 108, 108, 47, 99, 99]⟩) := HN.out 29 _ rfl
    go_wp2_with fail
    obtain ⟨r0, r1, r2, r3, r4⟩ := (HX.out.set (.string ⟨#[99, 97, 108, 108, 47, 99, 99]⟩) (.int .i64 1) (.int .i64 (1)) (.bool false) (.bool false)).cells
    refine bodyPost_ret (v := .tuple #[.agg #[.string ⟨#[99, 97, 108, 108, 47, 99, 99]⟩, .int .i64 1, .int .i64 (1), .bool false, .bool false], .bool true]) (by simp [results, Tryz.results21, go_sem, r0, r1, r2, r3, r4, hlt]) rfl ⟨by rw [← HF.out]; kernel_rfl, ?_⟩
    first | exact (HB.out.trans (set5_below W2 w.heap.size w.heap.size _ _ _ _ _ (Nat.le_refl _))).alloc (by simp; omega) _ | exact HB.out.trans (set5_below W2 w.heap.size w.heap.size _ _ _ _ _ (Nat.le_refl _)) | fail
  | 30, _ =>
    have hc : W2.cell? ⟨w.heap.size + 1, 30, none⟩ = some (.string ⟨#[97, 112, 112, 108, 121]⟩) := HN.out 30 _ rfl
    go_wp2_with fail
    obtain ⟨r0, r1, r2, r3, r4⟩ := (HX.out.set (.string ⟨#[97, 112, 112, 108, 121]⟩) (.int .i64 2) (.int .i64 (2)) (.bool false) (.bool false)).cells
    refine bodyPost_ret (v := .tuple #[.agg #[.string ⟨#[97, 112, 112, 108, 121]⟩, .int .i64 2, .int .i64 (2), .bool false, .bool false], .bool true]) (by simp [results, Tryz.results21, go_sem, r0, r1, r2, r3, r4, hlt]) rfl ⟨by rw [← HF.out]; kernel_rfl, ?_⟩
    first | exact (HB.out.trans (set5_below W2 w.heap.size w.heap.size _ _ _ _ _ (Nat.le_refl _))).alloc (by simp; omega) _ | exact HB.out.trans (set5_below W2 w.heap.size w.heap.size _ _ _ _ _ (Nat.le_refl _)) | fail
  | i + 31, h => exact absurd h (by omega)

set_option maxHeartbeats 4000000 in
set_option maxRecDepth 100000 in
theorem rfacts_any (n : Int) (w : World) :
    Calls Tryz.prog 21 #[.int .i64 n] w fun e w' => e = .returned (.tuple #[factV (Prims.facts n), .bool (Prims.has n)]) ∧ Below w.heap.size w w' := by
  by_cases hn : 0 ≤ n ∧ n ≤ 30
  · obtain ⟨i, rfl⟩ : ∃ i : Nat, n = i := ⟨n.toNat, by omega⟩
    have hh : Prims.has (i : Int) = true := by simp [Prims.has]; omega
    rw [hh]
    exact rfacts_in i (by omega) w
  · have hh : Prims.has n = false := by simp [Prims.has]; omega
    have hf : Prims.facts n = Prims.noFact := by rw [Prims.facts, if_neg hn]
    rw [hh, hf]
    have key : ∀ (c1 c2 : Bool), decide (n < 0) = c1 → decide (30 < n) = c2 → (c1 || c2) = true → Calls Tryz.prog 21 #[.int .i64 n] w fun e w' => e = .returned (.tuple #[factV Prims.noFact, .bool false]) ∧ Below w.heap.size w w' := by
      intro c1 c2 e1 e2 e3
      cases c1 <;> cases c2
      · cases e3
      all_goals
        go_enter Tryz.func21, Tryz.ntmps21
        go_wp2_with fail
        exact bodyPost_ret (v := .tuple #[.agg #[.string ⟨#[]⟩, .int .i64 0, .int .i64 0, .bool false, .bool false], .bool false]) (by simp [results, Tryz.results21, go_sem]) rfl ⟨rfl, by first | exact ((Below.refl _ _).alloc (Nat.le_refl _) _).alloc (by simp) _ | exact (((Below.refl _ _).alloc (Nat.le_refl _) _).alloc (by simp) _).drew | exact Below.drewN (((Below.refl _ _).alloc (Nat.le_refl _) _).alloc (by simp) _) _ | fail⟩
    exact key _ _ rfl rfl (by simp only [Bool.or_eq_true, decide_eq_true_eq]; omega)

theorem rfacts_to (n : Int) (f0 : ByteArray) (f1 f2 : Int) (f3 f4 b : Bool) (hf : Prims.facts n = ⟨f0, f1, f2, f3, f4⟩) (hb : Prims.has n = b) (w : World) :
    Calls Tryz.prog 21 #[.int .i64 n] w fun e w' => e = .returned (.tuple #[.agg #[.string f0, .int .i64 f1, .int .i64 f2, .bool f3, .bool f4], .bool b]) ∧ Below w.heap.size w w' := by
  have := rfacts_any n w
  rw [hf, hb] at this
  exact this

set_option maxHeartbeats 4000000 in
set_option maxRecDepth 100000 in
theorem rtakes_any (n k : Int) (_h0 : -9223372036854775808 ≤ n) (_h1 : n ≤ 9223372036854775807) (w : World) :
    Calls Tryz.prog 24 #[.int .i64 n, .int .i64 k] w fun e w' => e = .returned (.bool (Prims.takes n k)) ∧ Below w.heap.size w w' := by
  obtain ⟨b, hb⟩ : ∃ b, Prims.has n = b := ⟨_, rfl⟩
  obtain ⟨F, hF⟩ : ∃ F, Prims.facts n = F := ⟨_, rfl⟩
  have bnd := fact_bounds n
  rw [hF] at bnd
  obtain ⟨f0, f1, f2, f3, f4⟩ := F
  dsimp only at bnd
  obtain ⟨t, ht⟩ : ∃ t, Prims.takes n k = t := ⟨_, rfl⟩
  rw [ht]
  unfold Prims.takes at ht
  rw [hb, hF] at ht
  dsimp only at ht
  have HT := Lib.hid ht
  have HC := Lib.hid (fun W => rfacts_to n f0 f1 f2 f3 f4 b hF hb W)
  clear ht hF hb
  have go : ∀ (q1 q2 q3 : Bool), decide (f1 ≤ k) = q1 → decide (f2 < 0) = q2 → decide (k ≤ f2) = q3 → Calls Tryz.prog 24 #[.int .i64 n, .int .i64 k] w fun e w' => e = .returned (.bool t) ∧ Below w.heap.size w w' := by
    intro q1 q2 q3 e1 e2 e3
    have HR := Lib.hid (show (b && (q1 && (q2 || q3))) = t by
      rw [← HT.out, ← e1, ← e2, ← e3])
    clear HT
    cases b <;> cases q1 <;> cases q2 <;> cases q3
    all_goals
      go_enter Tryz.func24, Tryz.ntmps24
      go_wp2_with (first | (go_at_call 21; refine (HC.out _).mono ?_; rintro e' w1 ⟨rfl, hb1⟩) | fail)
      go_ret
      exact ⟨ret_bool HR.out, by first | exact hb1.alloc hb1.size _ | exact (hb1.alloc hb1.size _).drew | exact Below.drewN (hb1.alloc hb1.size _) _ | fail⟩
  exact go _ _ _ rfl rfl rfl
end Go.Proofs.YtnpiekniignfcaaGreatDoor
