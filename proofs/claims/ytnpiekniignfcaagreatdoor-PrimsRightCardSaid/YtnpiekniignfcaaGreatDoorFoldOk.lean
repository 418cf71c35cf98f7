/-
  What Fold makes is right, in plain Lean.
-/
import Derived.Test.YtnpiekniignfcaaGreatDoorFoldLaw
import Derived.Test.YtnpiekniignfcaaGreatDoorSums
import Derived.Test.YtnpiekniignfcaaGreatDoorSames
namespace Go.Proofs.YtnpiekniignfcaaGreatDoor
open Go

/-- An end other than BadCount; what is made is right. -/
def Ok (r : Dat × Int) : Prop := r.2 ≠ 2 ∧ (r.2 = 0 → Dat.right r.1 0 = true)
theorem ok_bad {z : Int} (h0 : z ≠ 0) (h2 : z ≠ 2) : Ok (Prims.zeroD, z) := ⟨h2, fun h => absurd h h0⟩
theorem ok_good {x : Dat} (h : Dat.right x 0 = true) : Ok (x, 0) := ⟨by show (0 : Int) ≠ 2; omega, fun _ => h⟩
theorem num_right (n d : Int) : Dat.right (Prims.num n d) 0 = Num.right n d := by
  simp [Prims.num, Dat.right, Dat.head, Dat.rightL]
theorem truth_right (b : Bool) : Dat.right (Prims.truth b) 0 = true := by cases b <;> decide +kernel
theorem whole_right (n : Nat) (h : n ≤ 1000000) : Num.right n 1 = true := by
  rw [Num.right_iff]; exact ⟨by omega, by omega, by omega, by omega, by simp⟩

theorem mk_ne2 (n d : Int) : (Num.mk n d).2.2 ≠ 2 := by
  rcases Num.mk_end n d with ⟨h, _⟩ | ⟨h, h1, h2⟩ | ⟨h, h1, h2⟩ <;> rw [h] <;> omega
theorem step_ne2 (n a b c d : Int) : (Prims.step n a b c d).2.2 ≠ 2 := by
  unfold Prims.step Num.add Num.sub Num.mul Num.div
  repeat' split
  all_goals first
    | exact mk_ne2 _ _
    | (show (3 : Int) ≠ 2; omega)

theorem sumsL_ok (n : Int) : ∀ (l : List Dat) (a b : Int), Num.right a b = true → Ok (Prims.sumsL n l a b)
  | [], a, b, h => ok_good (by rw [num_right]; exact h)
  | x :: l, a, b, h => by
    rw [Prims.sumsL]
    split
    · rename_i hz
      exact sumsL_ok n l _ _ ((step_bd (n := n) (a := a) (b := b) (c := x.n) (d := x.d) rfl).2.2.2.2 hz)
    · rename_i hz
      exact ok_bad hz (step_ne2 _ _ _ _ _)

theorem kind_num {x : Dat} (hk : x.kind = 0) (hr : Dat.right x 0 = true) : Num.right x.n x.d = true := by
  obtain ⟨k, n, d, s, l⟩ := x
  obtain rfl : k = 0 := hk
  simp only [Dat.right, Dat.head, if_true, Bool.and_eq_true] at hr
  exact hr.2.1.1

theorem sums_ok (n : Int) (h0 : 0 ≤ n) (h3 : n ≤ 3) (l : List Dat) (hr : ∀ x ∈ l, Dat.right x 0 = true) : Ok (Prims.sums n l) := by
  unfold Prims.sums
  split
  · exact ok_bad (by omega) (by omega)
  · rename_i hk
    unfold Prims.sumsR
    split
    · rename_i hl
      cases l with
      | nil => simp at hl
      | cons x l =>
        have hx : x.kind = 0 := by
          apply Decidable.byContradiction
          intro hc
          apply hk
          simp [hc]
        exact sumsL_ok n l x.n x.d (kind_num hx (hr x (by simp)))
    · apply sumsL_ok
      have : n = 0 ∨ n = 1 ∨ n = 2 ∨ n = 3 := by omega
      rcases this with rfl | rfl | rfl | rfl <;> decide +kernel

theorem len_allL : ∀ l : List Dat, l.length ≤ Dat.allL l
  | [] => by simp [Dat.allL]
  | x :: l => by
    have := len_allL l
    have := Dat.all_pos x
    simp only [List.length_cons, Dat.allL]; omega

theorem items_len : ∀ (x : Dat) (k : List Dat), Dat.items x = some k → k.length ≤ Dat.all x := by
  intro x
  induction x using Dat.ind with
  | h kk n d s l ih =>
    intro k hk
    match l, ih, hk with
    | [], _, hk =>
      simp only [Dat.items] at hk
      split at hk
      · simp only [Option.some.injEq] at hk; rw [← hk]; simp
      · cases hk
    | [a], _, hk =>
      simp only [Dat.items] at hk
      split at hk
      · simp only [Option.some.injEq] at hk; rw [← hk]; simp
      · cases hk
    | [a, b], ih, hk =>
      simp only [Dat.items] at hk
      split at hk
      · obtain ⟨k', hk', rfl⟩ := Option.map_eq_some_iff.1 hk
        have := ih b (by simp) k' hk'
        simp only [List.length_cons, Dat.all, Dat.allL]; omega
      · cases hk
    | a :: b :: c :: l, _, hk =>
      simp only [Dat.items] at hk
      split at hk
      · simp only [Option.some.injEq] at hk; rw [← hk]; simp
      · cases hk

theorem does_ok (n : Int) (l : List Dat) (hr : ∀ x ∈ l, Dat.right x 0 = true) (ht : Prims.takes n l.length = true) (hh : Prims.has n = true) (hf : (Prims.facts n).folds = true) (ha : Dat.allL l ≤ 1000) : Ok (Prims.does n l) := by
  have hn : 0 ≤ n ∧ n ≤ 30 := by simpa [Prims.has] using hh
  unfold Prims.does
  split
  · exact sums_ok n hn.1 (by omega) l hr
  split
  · exact ok_good (by decide +kernel)
  split
  · split
    · exact ok_bad (by omega) (by omega)
    split
    · exact ok_good (truth_right _)
    · exact ok_good (truth_right _)
  split
  · exact ok_good (truth_right _)
  split
  · unfold Prims.equal
    split
    · exact ok_bad (by omega) (by omega)
    · exact ok_good (truth_right _)
  split
  · exact ok_good (truth_right _)
  have hx : ∀ x, l = x :: l.tail → Dat.right x 0 = true := fun x h => hr x (by rw [h]; simp)
  split
  · split
    · exact ok_bad (by omega) (by omega)
    · rename_i hn18 hk
      cases l with
      | nil =>
        exfalso
        rcases hn18 with rfl | rfl <;> exact absurd ht (by decide +kernel)
      | cons x l =>
        have hx := hr x (by simp)
        obtain ⟨k, nn, d, s, m⟩ := x
        have hk6 : k = 6 := by apply Decidable.byContradiction; intro h; exact hk h
        subst hk6
        obtain ⟨_, a, c, rfl, _⟩ := right_pair_at hx
        rcases hn18 with rfl | rfl
        · exact ok_good (Dat.right_part hx (y := a) (by simp [Dat.l]))
        · exact ok_good (Dat.right_part hx (y := c) (by simp [Dat.l]))
  split
  · unfold Prims.at'
    split
    · exact ok_bad (by omega) (by omega)
    split
    · exact ok_bad (by omega) (by omega)
    · rename_i hk hj
      cases l with
      | nil =>
        exfalso; apply hk; left; show (0 : Int) ≠ 7; omega
      | cons x l =>
        have hx := hr x (by simp)
        refine ok_good ?_
        have hlt : (Dat.n ((x :: l).tail.headD Prims.zeroD)).toNat < x.l.length := by
          have h1 : ¬ ((x.l.length : Int) ≤ Dat.n ((x :: l).tail.headD Prims.zeroD)) := fun h => hj (.inr (.inr h))
          have h2 : ¬ (Dat.n ((x :: l).tail.headD Prims.zeroD) < 0) := fun h => hj (.inr (.inl h))
          omega
        show Dat.right (x.l.getD (Dat.n ((x :: l).tail.headD Prims.zeroD)).toNat Prims.zeroD) 0 = true
        rw [List.getD_eq_getElem?_getD, List.getElem?_eq_getElem hlt]
        exact Dat.right_part hx (List.getElem_mem hlt)
  have hal : Dat.all (l.headD Prims.zeroD) ≤ 1000 := by
    cases l with
    | nil => show Dat.all Prims.zeroD ≤ 1000; decide
    | cons x l => simp only [Dat.allL] at ha; show Dat.all x ≤ 1000; omega
  split
  · split
    · exact ok_bad (by omega) (by omega)
    · refine ok_good ?_
      rw [num_right]
      refine whole_right _ ?_
      have h1 := len_allL (l.headD Prims.zeroD).l
      have h2 : Dat.allL (l.headD Prims.zeroD).l ≤ Dat.all (l.headD Prims.zeroD) := by
        generalize l.headD Prims.zeroD = y
        obtain ⟨k, nn, d, s, m⟩ := y
        simp [Dat.all, Dat.l]
      omega
  split
  · split
    · exact ok_bad (by omega) (by omega)
    · rename_i k hk
      refine ok_good ?_
      rw [num_right]
      refine whole_right _ ?_
      have := items_len _ _ hk
      omega
  · exact ok_good (truth_right _)
end Go.Proofs.YtnpiekniignfcaaGreatDoor
