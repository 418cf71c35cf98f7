/-
  A datum's value determines it; a box that holds a datum is no part of a datum that is not greater.
-/
import Derived.Test.YtnpiekniignfcaaGreatDoorStep
import Derived.Test.YtnpiekniignfcaaGreatDoorBoxes
namespace Go.Proofs.YtnpiekniignfcaaGreatDoor
open Go.RowKit

theorem rep_unique {w : World} {B B' : Nat} : ∀ x y v, RepD w B x v → RepD w B' y v → x = y := by
  intro x
  refine Dat.rec (motive_1 := fun x => ∀ y v, RepD w B x v → RepD w B' y v → x = y) (motive_2 := fun l => ∀ m b off, l.length = m.length → RepC w B l b off → RepC w B' m b off → l = m) ?_ ?_ ?_ x
  · intro k n d s l ih y v h h'
    obtain ⟨k', n', d', s', l'⟩ := y
    rw [RepD] at h h'
    obtain ⟨o, len, cap, rfl, _, _, _, _, hl, _, _, h8⟩ := h
    obtain ⟨o', len', cap', he, _, _, _, _, hl', _, _, h8'⟩ := h'
    simp only [Value.agg.injEq, Array.mk.injEq, List.cons.injEq, Value.int.injEq, Value.string.injEq, Value.slice.injEq, true_and, and_true] at he
    obtain ⟨rfl, rfl, rfl, rfl, rfl, rfl, rfl⟩ := he
    have hll : l.length = l'.length := by rw [← hl, hl']
    have : l = l' := by
      cases o with
      | none => rw [h8.1, h8'.1]
      | some a => exact ih _ _ _ hll h8.2 h8'.2
    rw [this]
  · intro m b off hl _ _
    cases m with
    | nil => rfl
    | cons y m => simp at hl
  · intro x l ihx ihl m b off hl h h'
    cases m with
    | nil => simp at hl
    | cons y m =>
      rw [RepC] at h h'
      obtain ⟨⟨c0, c1, c2, c3, c4, h0, h1, h2, h3, h4, h5⟩, h6⟩ := h
      obtain ⟨⟨d0, d1, d2, d3, d4, g0, g1, g2, g3, g4, g5⟩, g6⟩ := h'
      rw [h0] at g0
      rw [h1] at g1
      rw [h2] at g2
      rw [h3] at g3
      rw [h4] at g4
      simp only [Option.some.injEq] at g0 g1 g2 g3 g4
      subst g0 g1 g2 g3 g4
      rw [ihx _ _ h5 g5, ihl _ _ _ (by simpa using hl) h6 g6]

theorem rep_apart {w : World} {B B' p : Nat} {t : TypeId} {D : Dat} {e0 e1 e2 e3 e4 : Value} (hp : Box5 w p t e0 e1 e2 e3 e4) (hD : RepD w B' D (.agg #[e0, e1, e2, e3, e4])) : ∀ x v, Dat.all x ≤ Dat.all D → RepD w B x v → RepD (gap w p (p + 1)) B x v := by
  intro x
  refine Dat.rec (motive_1 := fun x => ∀ v, Dat.all x ≤ Dat.all D → RepD w B x v → RepD (gap w p (p + 1)) B x v) (motive_2 := fun l => ∀ b off, Dat.allL l < Dat.all D → RepC w B l b off → RepC (gap w p (p + 1)) B l b off) ?_ ?_ ?_ x
  · intro k n d s l ih v hz h
    rw [Dat.all] at hz
    rw [RepD] at h ⊢
    obtain ⟨o, len, cap, rfl, h1, h2, h3, h4, h5, h6, h7, h8⟩ := h
    refine ⟨o, len, cap, rfl, h1, h2, h3, h4, h5, h6, h7, ?_⟩
    cases o with
    | none => exact h8
    | some a => exact ⟨h8.1, ih _ _ (by omega) h8.2⟩
  · intro b off _ _; rw [RepC]; trivial
  · intro x l ihx ihl b off hz h
    rw [Dat.allL] at hz
    rw [RepC] at h ⊢
    obtain ⟨⟨c0, c1, c2, c3, c4, h0, h1, h2, h3, h4, h5⟩, h6⟩ := h
    have hpx := Dat.all_pos x
    have hb : b ≠ p := by
      rintro rfl
      have l4 := zero_cell hp h4
      obtain rfl : off = 0 := by omega
      obtain ⟨q0, q1, q2, q3, q4⟩ := hp.cells
      rw [q0] at h0
      rw [q1] at h1
      rw [q2] at h2
      rw [q3] at h3
      rw [q4] at h4
      simp only [Option.some.injEq] at h0 h1 h2 h3 h4
      subst h0 h1 h2 h3 h4
      rw [rep_unique _ _ _ h5 hD] at hz
      omega
    have g : ∀ o, (gap w p (p + 1)).cell? ⟨b, o, none⟩ = w.cell? ⟨b, o, none⟩ := fun o => gap_other (by omega)
    exact ⟨⟨c0, c1, c2, c3, c4, (g _).trans h0, (g _).trans h1, (g _).trans h2, (g _).trans h3, (g _).trans h4, ihx _ (by omega) h5⟩, ihl _ _ (by omega) h6⟩

/-- .. so it is a datum still when the box is written. -/
theorem rep_over {w : World} {B B' p : Nat} {t : TypeId} {D : Dat} {e0 e1 e2 e3 e4 : Value} (hp : Box5 w p t e0 e1 e2 e3 e4) (hD : RepD w B' D (.agg #[e0, e1, e2, e3, e4])) {x : Dat} {v : Value} (hz : Dat.all x ≤ Dat.all D) (h : RepD w B x v) (d0 d1 d2 d3 d4 : Value) : RepD (set5 w p d0 d1 d2 d3 d4) B x v :=
  (rep_apart hp hD x v hz h).closed fun c o u hc hu => by rw [set5_other _ _ _ _ _ _ _ (by omega)]; exact hu
end Go.Proofs.YtnpiekniignfcaaGreatDoor
