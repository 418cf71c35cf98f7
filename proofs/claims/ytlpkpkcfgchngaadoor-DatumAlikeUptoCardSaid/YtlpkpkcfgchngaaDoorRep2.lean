/-
  Data in memory: kept while every cell that is known stays known; data that do not read a given block.
-/
import Derived.Test.YtlpkpkcfgchngaaDoorTwo
import Derived.RangeFuncBox
namespace Go.Proofs.YtlpkpkcfgchngaaDoor
open Go.RowKit

/-- .. where every known cell stays. -/
theorem rep_mono {w w' : World} {B : Nat} (hk : ∀ b o v, w.cell? ⟨b, o, none⟩ = some v → w'.cell? ⟨b, o, none⟩ = some v) :
    (∀ x v, RepD w B x v → RepD w' B x v) ∧ (∀ l b off, RepC w B l b off → RepC w' B l b off) := by
  have both : (∀ x : Dat, ∀ v, RepD w B x v → RepD w' B x v) := by
    intro x
    refine Dat.rec (motive_1 := fun x => ∀ v, RepD w B x v → RepD w' B x v) (motive_2 := fun l => ∀ b off, RepC w B l b off → RepC w' B l b off) ?_ ?_ ?_ x
    · intro k n d s l ih v h
      rw [RepD] at h ⊢
      obtain ⟨o, len, cap, rfl, h1, h2, h3, h4, h5, h6, h7, h8⟩ := h
      refine ⟨o, len, cap, rfl, h1, h2, h3, h4, h5, h6, h7, ?_⟩
      cases o with
      | none => exact h8
      | some a => exact ⟨h8.1, ih _ _ h8.2⟩
    · intro b off _; rw [RepC]; trivial
    · intro x l ihx ihl b off h
      rw [RepC] at h ⊢
      obtain ⟨⟨c0, c1, c2, c3, c4, h0, h1, h2, h3, h4, h5⟩, h6⟩ := h
      exact ⟨⟨c0, c1, c2, c3, c4, hk _ _ _ h0, hk _ _ _ h1, hk _ _ _ h2, hk _ _ _ h3, hk _ _ _ h4, ihx _ h5⟩, ihl _ _ h6⟩
  refine ⟨both, ?_⟩
  intro l
  induction l with
  | nil => intro b off _; rw [RepC]; trivial
  | cons x l ih =>
    intro b off h
    rw [RepC] at h ⊢
    obtain ⟨⟨c0, c1, c2, c3, c4, h0, h1, h2, h3, h4, h5⟩, h6⟩ := h
    exact ⟨⟨c0, c1, c2, c3, c4, hk _ _ _ h0, hk _ _ _ h1, hk _ _ _ h2, hk _ _ _ h3, hk _ _ _ h4, both _ _ h5⟩, ih _ _ h6⟩

theorem RepS.mono {w w' : World} {B : Nat} {l : List Dat} {v : Value} (hk : ∀ b o v, w.cell? ⟨b, o, none⟩ = some v → w'.cell? ⟨b, o, none⟩ = some v) (h : RepS w B l v) : RepS w' B l v := by
  obtain ⟨o, len, cap, rfl, h1, h2, h3, h4⟩ := h
  refine ⟨o, len, cap, rfl, h1, h2, h3, ?_⟩
  cases o with
  | none => exact h4
  | some a => exact ⟨h4.1, (rep_mono hk).2 _ _ _ h4.2⟩

/-- The world without the blocks from lo up to hi (a function's own boxes). -/
def gap (W : World) (lo hi : Nat) : World := { W with heap := W.heap.mapIdx fun i o => if lo ≤ i ∧ i < hi then .deferred none else o }
theorem gap_other {W : World} {lo hi c o : Nat} (h : ¬ (lo ≤ c ∧ c < hi)) : (gap W lo hi).cell? ⟨c, o, none⟩ = W.cell? ⟨c, o, none⟩ := by
  have e : (gap W lo hi).heap[c]? = W.heap[c]? := by
    simp only [gap, Array.getElem?_mapIdx]
    simp only [if_neg h, Option.map_id_fun', id]
  unfold World.cell?
  rw [show (gap W lo hi).heap[({ block := c, off := o, spot := none } : Addr).block]? = W.heap[c]? from e]
theorem gap_same {W : World} {lo hi c o : Nat} (h : lo ≤ c ∧ c < hi) : (gap W lo hi).cell? ⟨c, o, none⟩ = none := by
  have e : (gap W lo hi).heap[c]? = W.heap[c]?.map fun _ => .deferred none := by
    simp only [gap, Array.getElem?_mapIdx]
    simp only [if_pos h]
  unfold World.cell?
  rw [show (gap W lo hi).heap[({ block := c, off := o, spot := none } : Addr).block]? = W.heap[c]?.map fun _ => .deferred none from e]
  cases W.heap[c]? <;> rfl
theorem gap_some {W : World} {lo hi c o : Nat} {v : Value} (h : (gap W lo hi).cell? ⟨c, o, none⟩ = some v) : ¬ (lo ≤ c ∧ c < hi) ∧ W.cell? ⟨c, o, none⟩ = some v := by
  by_cases hc : lo ≤ c ∧ c < hi
  · rw [gap_same hc] at h; cases h
  · exact ⟨hc, by rwa [gap_other hc] at h⟩
theorem RepD.fill {W : World} {lo hi B : Nat} {x : Dat} {v : Value} (h : RepD (gap W lo hi) B x v) : RepD W B x v := (rep_mono fun _ _ _ h => (gap_some h).2).1 _ _ h
/-- What does not read the blocks stays while all other known cells stay. -/
theorem RepD.holed {W W' : World} {lo hi B : Nat} {x : Dat} {v : Value} (h : RepD (gap W lo hi) B x v) (hk : ∀ c o u, ¬ (lo ≤ c ∧ c < hi) → W.cell? ⟨c, o, none⟩ = some u → W'.cell? ⟨c, o, none⟩ = some u) : RepD (gap W' lo hi) B x v :=
  (rep_mono fun c o u hc => by
    obtain ⟨h1, h2⟩ := gap_some hc
    rw [gap_other h1]; exact hk c o u h1 h2).1 _ _ h
/-- .. at the end, when the blocks are of no use any more. -/
theorem RepD.closed {W W' : World} {lo hi B : Nat} {x : Dat} {v : Value} (h : RepD (gap W lo hi) B x v) (hk : ∀ c o u, ¬ (lo ≤ c ∧ c < hi) → W.cell? ⟨c, o, none⟩ = some u → W'.cell? ⟨c, o, none⟩ = some u) : RepD W' B x v := (h.holed hk).fill
/-- What lies below the blocks does not read them. -/
theorem RepD.dig {W : World} {lo hi B : Nat} {x : Dat} {v : Value} (h : RepD W B x v) (hb : B ≤ lo) : RepD (gap W lo hi) B x v :=
  (rep_kept fun c o hc => gap_other (by omega)).1 _ _ h
theorem RepS.fill {W : World} {lo hi B : Nat} {l : List Dat} {v : Value} (h : RepS (gap W lo hi) B l v) : RepS W B l v := RepS.mono (fun _ _ _ h => (gap_some h).2) h
theorem RepS.holed {W W' : World} {lo hi B : Nat} {l : List Dat} {v : Value} (h : RepS (gap W lo hi) B l v) (hk : ∀ c o u, ¬ (lo ≤ c ∧ c < hi) → W.cell? ⟨c, o, none⟩ = some u → W'.cell? ⟨c, o, none⟩ = some u) : RepS (gap W' lo hi) B l v :=
  RepS.mono (fun c o u hc => by
    obtain ⟨h1, h2⟩ := gap_some hc
    rw [gap_other h1]; exact hk c o u h1 h2) h
theorem RepS.closed {W W' : World} {lo hi B : Nat} {l : List Dat} {v : Value} (h : RepS (gap W lo hi) B l v) (hk : ∀ c o u, ¬ (lo ≤ c ∧ c < hi) → W.cell? ⟨c, o, none⟩ = some u → W'.cell? ⟨c, o, none⟩ = some u) : RepS W' B l v := (h.holed hk).fill

/-- Two data in a new block: a slice of two. -/
theorem RepC.two {W : World} {B nb : Nat} {x y : Dat} {a0 a1 a2 a3 a4 b0 b1 b2 b3 b4 : Value} (h0 : W.cell? ⟨nb, 0, none⟩ = some a0) (h1 : W.cell? ⟨nb, 1, none⟩ = some a1) (h2 : W.cell? ⟨nb, 2, none⟩ = some a2) (h3 : W.cell? ⟨nb, 3, none⟩ = some a3) (h4 : W.cell? ⟨nb, 4, none⟩ = some a4)
    (g0 : W.cell? ⟨nb, 5, none⟩ = some b0) (g1 : W.cell? ⟨nb, 6, none⟩ = some b1) (g2 : W.cell? ⟨nb, 7, none⟩ = some b2) (g3 : W.cell? ⟨nb, 8, none⟩ = some b3) (g4 : W.cell? ⟨nb, 9, none⟩ = some b4)
    (hx : RepD W B x (.agg #[a0, a1, a2, a3, a4])) (hy : RepD W B y (.agg #[b0, b1, b2, b3, b4])) : RepC W B [x, y] nb 0 := by
  rw [RepC, RepC, RepC]
  exact ⟨⟨a0, a1, a2, a3, a4, h0, h1, h2, h3, h4, hx⟩, ⟨b0, b1, b2, b3, b4, g0, g1, g2, g3, g4, hy⟩, trivial⟩
end Go.Proofs.YtlpkpkcfgchngaaDoor
