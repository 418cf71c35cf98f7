/-
  Data of which no part is the zero datum do not read a new box that is not yet written.
-/
import Derived.Test.YtlpkpkcfgchngaaDoorList
namespace Go.Proofs.YtlpkpkcfgchngaaDoor
open Go.RowKit

def isZero : Dat → Bool | .mk k n d _ _ => decide (k = 0 ∧ n = 0 ∧ d = 0)
mutual
/-- No part is the zero datum. -/
def nz : Dat → Bool | .mk _ _ _ _ l => nzL l
def nzL : List Dat → Bool
  | [] => true
  | x :: l => !isZero x && (nz x && nzL l)
end

theorem zero_cell {w : World} {p o : Nat} {t : TypeId} {c0 c1 c2 c3 c4 c : Value} (hp : Box5 w p t c0 c1 c2 c3 c4) (h : w.cell? ⟨p, o, none⟩ = some c) : o < 5 := by
  have h' : w.heap[p]? = _ := hp
  simp only [World.cell?, h'] at h
  have h2 : (#[c0, c1, c2, c3, c4] : Array Value)[o]? = some c := by simpa using h
  have := (Array.getElem?_eq_some_iff.1 h2).1
  simpa using this

theorem rep_noZero {w : World} {B p : Nat} {t : TypeId} {s0 sl0 : Value} (hp : Box5 w p t (.int .i64 0) (.int .i64 0) (.int .i64 0) s0 sl0) : ∀ x v, nz x = true → RepD w B x v → RepD (gap w p (p + 1)) B x v := by
  intro x
  refine Dat.rec (motive_1 := fun x => ∀ v, nz x = true → RepD w B x v → RepD (gap w p (p + 1)) B x v) (motive_2 := fun l => ∀ b off, nzL l = true → RepC w B l b off → RepC (gap w p (p + 1)) B l b off) ?_ ?_ ?_ x
  · intro k n d s l ih v hz h
    rw [nz] at hz
    rw [RepD] at h ⊢
    obtain ⟨o, len, cap, rfl, h1, h2, h3, h4, h5, h6, h7, h8⟩ := h
    refine ⟨o, len, cap, rfl, h1, h2, h3, h4, h5, h6, h7, ?_⟩
    cases o with
    | none => exact h8
    | some a => exact ⟨h8.1, ih _ _ hz h8.2⟩
  · intro b off _ _; rw [RepC]; trivial
  · intro x l ihx ihl b off hz h
    rw [nzL] at hz
    simp only [Bool.and_eq_true, Bool.not_eq_true'] at hz
    rw [RepC] at h ⊢
    obtain ⟨⟨c0, c1, c2, c3, c4, h0, h1, h2, h3, h4, h5⟩, h6⟩ := h
    have hb : b ≠ p := by
      rintro rfl
      have l4 := zero_cell hp h4
      obtain rfl : off = 0 := by omega
      obtain ⟨q0, q1, q2, _⟩ := hp.cells
      rw [q0] at h0
      rw [q1] at h1
      rw [q2] at h2
      simp only [Option.some.injEq] at h0 h1 h2
      subst h0 h1 h2
      obtain ⟨k, n, d, s, l'⟩ := x
      obtain ⟨sl, hv, _⟩ := h5.open
      simp only [Value.agg.injEq, Array.mk.injEq, List.cons.injEq, Value.int.injEq, true_and] at hv
      obtain ⟨rfl, rfl, rfl, _⟩ := hv
      simp [isZero] at hz
    have g : ∀ o, (gap w p (p + 1)).cell? ⟨b, o, none⟩ = w.cell? ⟨b, o, none⟩ := fun o => gap_other (by omega)
    exact ⟨⟨c0, c1, c2, c3, c4, (g _).trans h0, (g _).trans h1, (g _).trans h2, (g _).trans h3, (g _).trans h4, ihx _ hz.2.1 h5⟩, ihl _ _ hz.2.2 h6⟩

/-- .. so they are data still when it is written. -/
theorem rep_written {w : World} {p : Nat} {t : TypeId} {s0 sl0 : Value} (hp : Box5 w p t (.int .i64 0) (.int .i64 0) (.int .i64 0) s0 sl0) {x : Dat} {v : Value} (hz : nz x = true) (h : RepD w w.heap.size x v) (d0 d1 d2 d3 d4 : Value) : RepD (set5 w p d0 d1 d2 d3 d4) (set5 w p d0 d1 d2 d3 d4).heap.size x v :=
  ((rep_noZero hp x v hz h).closed fun c o u hc hu => by rw [set5_other _ _ _ _ _ _ _ (by omega)]; exact hu).wider (by rw [set5_size]; exact Nat.le_refl _)
end Go.Proofs.YtlpkpkcfgchngaaDoor
