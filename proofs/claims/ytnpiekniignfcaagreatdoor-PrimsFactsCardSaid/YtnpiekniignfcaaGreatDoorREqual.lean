/-
  The contracts of corbelref05.truth, number, Eq, Equal.
-/
import Derived.Test.YtnpiekniignfcaaGreatDoorEqc
import Derived.Test.YtnpiekniignfcaaGreatDoorRAlike
namespace Go.Proofs.YtnpiekniignfcaaGreatDoor
open Go.RowKit

theorem rnumber_any (n : Int) (w : World) : Calls Tryz.prog 61 #[.int .i64 n] w fun e w' => e = .returned (leafV 0 n 1) ∧ Below w.heap.size w w' := by
  go_enter Tryz.func61, Tryz.ntmps61
  go_wp2_with fail
  exact bodyPost_ret (v := leafV 0 n 1) (by simp [results, Tryz.results61, go_sem, leafV]) rfl ⟨rfl, (Below.refl _ _).alloc (Nat.le_refl _) _⟩

theorem rtruth_any (b : Bool) (w : World) : Calls Tryz.prog 57 #[.bool b] w fun e w' => e = .returned (leafV 1 (if b then 1 else 0) 0) ∧ Below w.heap.size w w' := by
  cases b
  all_goals
    go_enter Tryz.func57, Tryz.ntmps57
    go_wp2_with fail
  · exact bodyPost_ret (v := leafV 1 0 0) (by simp [results, Tryz.results57, go_sem, leafV]) rfl ⟨rfl, (Below.refl _ _).alloc (Nat.le_refl _) _⟩
  · exact bodyPost_ret (v := leafV 1 1 0) (by simp [results, Tryz.results57, go_sem, leafV]) rfl ⟨rfl, (Below.refl _ _).alloc (Nat.le_refl _) _⟩

set_option maxHeartbeats 1000000 in
set_option maxRecDepth 100000 in
theorem req_any (x y : Dat) (v u : Value) (B : Nat) (w : World) (hv : RepD w B x v) (hu : RepD w B y u) (hB : B ≤ w.heap.size) :
    Calls Tryz.prog 59 #[v, u] w fun e w' => e = .returned (.bool (Prims.eq x y)) ∧ Below w.heap.size w w' := by
  obtain ⟨r, hr⟩ : ∃ r, Prims.eq x y = r := ⟨_, rfl⟩
  obtain ⟨k, n, d, s, o, len, cap, rfl⟩ := agg_of hv
  obtain ⟨k', n', d', s', o', len', cap', rfl⟩ := agg_of hu
  have HC := Lib.hid (fun W (hb : Below w.heap.size w W) => ralike_any x y _ _ B W (hv.kept (hb.mono hB)) (hu.kept (hb.mono hB)) (Nat.le_trans hB hb.size))
  obtain ⟨kx, nx, dx, sx, lx⟩ := x
  obtain ⟨ky, ny, dy, sy, ly⟩ := y
  obtain ⟨_, he, _⟩ := hv.open
  simp only [Value.agg.injEq, Array.mk.injEq, List.cons.injEq, Value.int.injEq, true_and] at he
  obtain rfl := he.1
  clear he
  obtain ⟨_, he, _⟩ := hu.open
  simp only [Value.agg.injEq, Array.mk.injEq, List.cons.injEq, Value.int.injEq, true_and] at he
  obtain rfl := he.1
  clear he
  rw [hr]
  obtain ⟨q, hq⟩ : ∃ q, Dat.alike (.mk k nx dx sx lx) (.mk k' ny dy sy ly) = q := ⟨_, rfl⟩
  rw [hq] at HC
  have HR := Lib.hid (show (decide (k ≠ 3 ∧ k ≠ 6 ∧ k ≠ 7) && q) = r by rw [← hr, ← hq]; rfl)
  have HQ := Lib.hid (show k ≠ k' → q = false by intro h; rw [← hq, Dat.alike, decide_eq_false h]; rfl)
  clear hr hq hv hu
  have HK := Lib.hid (fun X Y => ((Below.refl w.heap.size w).alloc (Nat.le_refl _) X).alloc (by simp) Y)
  by_cases hkk : k = k'
  · subst hkk
    clear HQ
    by_cases hk : k = 3 ∨ k = 6 ∨ k = 7
    · obtain rfl : false = r := by rw [← HR.out, decide_eq_false (by omega)]; rfl
      rcases hk with rfl | rfl | rfl
      all_goals
        go_enter Tryz.func59, Tryz.ntmps59
        go_wp2_with fail
        go_ret
        exact ⟨rfl, HK.out _ _⟩
    · obtain rfl : q = r := by rw [← HR.out, decide_eq_true (by omega)]; simp
      have k3 : (k != 3) = true := by simp; omega
      have k6 : (k != 6) = true := by simp; omega
      have k7 : (k != 7) = true := by simp; omega
      go_enter Tryz.func59, Tryz.ntmps59
      go_wp2_with fail
      refine (HC.out _ (HK.out _ _)).mono ?_
      rintro e1 w1 ⟨rfl, hb1⟩
      go_wp2_with fail
      go_ret
      exact ⟨rfl, (HK.out _ _).trans (hb1.mono (by simp; omega))⟩
  · obtain rfl : false = r := by rw [← HR.out, HQ.out hkk, Bool.and_false]
    have k0 : (k == k') = false := by simpa using hkk
    go_enter Tryz.func59, Tryz.ntmps59
    go_wp2_with fail
    go_ret
    exact ⟨rfl, HK.out _ _⟩

/-! ### Equal: a box counts down -/
/-- The world with another number in a box. -/
abbrev setN (w : World) (nb : Nat) (c : Int) : World := w.setCell ⟨nb, 0, none⟩ (.int .i64 c)
theorem setN_ne (w : World) (nb : Nat) (c : Int) {b : Nat} (h : b ≠ nb) : (setN w nb c).heap[b]? = w.heap[b]? := Below.heap_setCell w ⟨nb, 0, none⟩ _ b h
theorem setN_at {w : World} {nb : Nat} {v : Value} {t : TypeId} (c : Int) (h : w.heap[nb]? = some (.cells #[v] t)) : (setN w nb c).heap[nb]? = some (.cells #[.int .i64 c] t) := by
  simp only [setN, World.setCell, Array.getElem?_modify, ↓reduceIte]
  rw [show w.heap[nb]? = _ from h]
  rfl
theorem setN_size (w : World) (nb : Nat) (c : Int) : (setN w nb c).heap.size = w.heap.size := by simp [setN]
theorem setN_below {w w' : World} {nb B : Nat} {c : Int} (h : Below w.heap.size (setN w nb c) w') (hB : B ≤ nb) (hB2 : B ≤ w.heap.size) : Below B w w' :=
  (Below.setCell (Below.refl B w) (p := ⟨nb, 0, none⟩) hB (.int .i64 c)).trans (h.mono hB2)
theorem setN_next {w w1 w2 : World} {nb : Nat} {v : Value} {t : TypeId} {c1 c2 : Int} (hnb : w.heap[nb]? = some (.cells #[v] t)) (h1 : Below w.heap.size (setN w nb c1) w1) (h2 : Below w1.heap.size (setN w1 nb c2) w2) : Below w.heap.size (setN w nb c2) w2 := by
  have hlt := (Array.getElem?_eq_some_iff.1 hnb).1
  refine ⟨h2.os.trans h1.os, h2.tape.trans h1.tape, h2.output.trans h1.output, ?_, ?_⟩
  · have a := h1.size; have b := h2.size; rw [setN_size] at a b ⊢; omega
  · intro k hk
    have hk1 : k < w1.heap.size := by have a := h1.size; rw [setN_size] at a; omega
    rw [h2.block k hk1]
    by_cases hkn : k = nb
    · subst hkn
      have e1 : w1.heap[k]? = some (.cells #[.int .i64 c1] t) := (h1.block k hlt).trans (setN_at c1 hnb)
      rw [setN_at c2 e1, setN_at c2 hnb]
    · rw [setN_ne _ _ _ hkn, setN_ne _ _ _ hkn, h1.block k hk, setN_ne _ _ _ hkn]
theorem setN_self {w : World} {nb : Nat} {t : TypeId} {c : Int} (hnb : w.heap[nb]? = some (.cells #[.int .i64 c] t)) : Below w.heap.size (setN w nb c) w := by
  refine ⟨rfl, rfl, rfl, by rw [setN_size]; exact Nat.le_refl _, ?_⟩
  intro k hk
  by_cases hkn : k = nb
  · subst hkn; rw [setN_at c hnb, hnb]
  · rw [setN_ne _ _ _ hkn]
end Go.Proofs.YtnpiekniignfcaaGreatDoor
