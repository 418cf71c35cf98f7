/-
  The contract of prims.Fold.
-/
import Derived.Test.YtnpiekniignfcaaGreatDoorDoes2E
import Derived.Test.YtnpiekniignfcaaGreatDoorDoes2C
import Derived.Test.YtnpiekniignfcaaGreatDoorFold
namespace Go.Proofs.YtnpiekniignfcaaGreatDoor
open Go.RowKit

/-- How many a primitive takes. -/
theorem takes_len (n : Int) (m len : Nat) (h : Prims.takes n len = true) (h1 : (Prims.facts n).least = m) (h2 : (Prims.facts n).most = m) : len = m := by
  unfold Prims.takes at h
  rw [h1, h2] at h
  simp only [Bool.and_eq_true, Bool.or_eq_true, decide_eq_true_eq] at h
  omega

theorem does_any (n : Int) (l : List Dat) (sl : Value) (B : Nat) (w : World) (hv : RepS w B l sl) (hB : B ≤ w.heap.size) (hr : ∀ x ∈ l, Dat.right x 0 = true) (ht : Prims.takes n l.length = true) (hh : Prims.has n = true) (hf : (Prims.facts n).folds = true) :
    Calls Tryz.prog 30 #[.int .i64 n, sl] w (EndPost B (Prims.does n l) w) := by
  obtain ⟨i, rfl⟩ : ∃ i : Nat, n = i := ⟨n.toNat, by simp [Prims.has] at hh; omega⟩
  have hi : i < 31 := by simp [Prims.has] at hh; omega
  match i, hi with
  | 0, _ => exact does_0 l sl B w hv hB
  | 1, _ => exact does_1 l sl B w hv hB
  | 2, _ => exact does_2 l sl B w hv hB
  | 3, _ => exact does_3 l sl B w hv hB
  | 4, _ => exact does_4 l sl B w hv hB hr (takes_len 4 2 l.length ht rfl rfl)
  | 5, _ => exact does_5 l sl B w hv hB hr (takes_len 5 2 l.length ht rfl rfl)
  | 6, _ => exact does_6 l sl B w hv hB hr (takes_len 6 2 l.length ht rfl rfl)
  | 7, _ => exact does_7 l sl B w hv hB hr (takes_len 7 2 l.length ht rfl rfl)
  | 8, _ => exact does_8 l sl B w hv hB hr (takes_len 8 1 l.length ht rfl rfl)
  | 9, _ => exact does_9 l sl B w hv hB hr (takes_len 9 1 l.length ht rfl rfl)
  | 10, _ => exact does_10 l sl B w hv hB hr (takes_len 10 1 l.length ht rfl rfl)
  | 11, _ => exact does_11 l sl B w hv hB hr (takes_len 11 1 l.length ht rfl rfl)
  | 12, _ => exact does_12 l sl B w hv hB hr (takes_len 12 1 l.length ht rfl rfl)
  | 13, _ => exact does_13 l sl B w hv hB hr (takes_len 13 1 l.length ht rfl rfl)
  | 14, _ => exact does_14 l sl B w hv hB hr (takes_len 14 1 l.length ht rfl rfl)
  | 15, _ => exact does_15 l sl B w hv hB hr (takes_len 15 1 l.length ht rfl rfl)
  | 16, _ => exact does_16 l sl B w hv hB hr (takes_len 16 1 l.length ht rfl rfl)
  | 17, _ => exact absurd hf (by decide)
  | 18, _ => exact does_18 l sl B w hv hB hr (takes_len 18 1 l.length ht rfl rfl)
  | 19, _ => exact does_19 l sl B w hv hB hr (takes_len 19 1 l.length ht rfl rfl)
  | 20, _ => exact absurd hf (by decide)
  | 21, _ => exact absurd hf (by decide)
  | 22, _ => exact does_22 l sl B w hv hB hr (takes_len 22 2 l.length ht rfl rfl)
  | 23, _ => exact does_23 l sl B w hv hB hr (takes_len 23 1 l.length ht rfl rfl)
  | 24, _ => exact does_24 l sl B w hv hB hr (takes_len 24 1 l.length ht rfl rfl)
  | 25, _ => exact (by
      have h0 := takes_len 25 0 l.length ht rfl rfl
      have hl : l = [] := List.length_eq_zero_iff.1 h0
      subst hl
      exact does_25 sl B w hv hB)
  | 26, _ => exact absurd hf (by decide)
  | 27, _ => exact absurd hf (by decide)
  | 28, _ => exact absurd hf (by decide)
  | 29, _ => exact absurd hf (by decide)
  | 30, _ => exact absurd hf (by decide)
  | i + 31, h => exact absurd h (by omega)

theorem fold_any (n : Int) (h0 : -9223372036854775808 ≤ n) (h1 : n ≤ 9223372036854775807) (l : List Dat) (sl : Value) (B : Nat) (w : World) (hv : RepS w B l sl) (hB : B ≤ w.heap.size) :
    Calls Tryz.prog 12 #[.int .i64 n, sl] w (FoldPost w.heap.size (Prims.fold n l) w) :=
  fold_of n h0 h1 l sl B w hv hB (fun hr ht hh hf W hb => does_any n l sl w.heap.size W ((hv.wider hB).kept hb) hb.size hr ht hh hf)
end Go.Proofs.YtnpiekniignfcaaGreatDoor
