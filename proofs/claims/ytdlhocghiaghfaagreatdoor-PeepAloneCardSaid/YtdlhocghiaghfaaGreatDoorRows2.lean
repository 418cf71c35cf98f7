/-
  The contract of datum.List.
-/
import Derived.Test.YtdlhocghiaghfaaGreatDoorListUp
import Derived.Test.YtdlhocghiaghfaaGreatDoorBoxes
import Derived.Laws.AppendOwn
import Derived.Laws.OwnMore
namespace Go.Proofs.YtdlhocghiaghfaaGreatDoor
open Go.RowKit Go.Shelf

attribute [local go_sem] Oper.semAt_some

end Go.Proofs.YtdlhocghiaghfaaGreatDoor

namespace Go.Proofs.YtdlhocghiaghfaaGreatDoor
open Go.RowKit

theorem info_datum : (Tryz.prog.info? 66).map (fun i => (i.zero, i.size, i.bytes)) = some (some (.agg #[.int .i64 0, .int .i64 0, .int .i64 0, .string ⟨#[]⟩, .slice none 0 0]), 5, 64) := by kernel_rfl

/-- The cells read as the data, five cells each. -/
def CellsD (w : World) (B : Nat) : List Dat → List Value → Prop
  | [], xs => xs = []
  | x :: l, xs => ∃ c0 c1 c2 c3 c4 r, xs = c0 :: c1 :: c2 :: c3 :: c4 :: r ∧ RepD w B x (.agg #[c0, c1, c2, c3, c4]) ∧ CellsD w B l r

theorem CellsD.length {w : World} {B : Nat} : ∀ {l : List Dat} {xs : List Value}, CellsD w B l xs → xs.length = l.length * 5
  | [], _, h => by rw [CellsD] at h; rw [h]; rfl
  | _ :: l, _, ⟨_, _, _, _, _, r, he, _, hr⟩ => by rw [he]; simp only [List.length_cons, hr.length]; omega
theorem CellsD.mono {w w' : World} {B B' : Nat} (hk : ∀ x v, RepD w B x v → RepD w' B' x v) : ∀ {l : List Dat} {xs : List Value}, CellsD w B l xs → CellsD w' B' l xs
  | [], _, h => h
  | _ :: _, _, ⟨c0, c1, c2, c3, c4, r, he, hx, hr⟩ => ⟨c0, c1, c2, c3, c4, r, he, hk _ _ hx, hr.mono hk⟩
theorem CellsD.snoc {w : World} {B : Nat} {x : Dat} {c0 c1 c2 c3 c4 : Value} (hx : RepD w B x (.agg #[c0, c1, c2, c3, c4])) : ∀ {l : List Dat} {xs : List Value}, CellsD w B l xs → CellsD w B (l ++ [x]) (xs ++ [c0, c1, c2, c3, c4])
  | [], _, h => by rw [CellsD] at h; rw [h]; exact ⟨c0, c1, c2, c3, c4, [], rfl, hx, rfl⟩
  | _ :: _, _, ⟨a0, a1, a2, a3, a4, r, he, hy, hr⟩ => ⟨a0, a1, a2, a3, a4, r ++ [c0, c1, c2, c3, c4], by rw [he]; rfl, hy, hr.snoc hx⟩

theorem CellsD.repC {w : World} {B b : Nat} : ∀ {l : List Dat} {xs : List Value} {off : Nat}, CellsD w B l xs → (∀ j u, xs[j]? = some u → w.cell? ⟨b, off + j, none⟩ = some u) → RepC w B l b off
  | [], _, _, _, _ => by rw [RepC]; trivial
  | x :: l, _, off, ⟨c0, c1, c2, c3, c4, r, he, hx, hr⟩, hc => by
    subst he
    rw [RepC]
    refine ⟨⟨c0, c1, c2, c3, c4, hc 0 _ rfl, hc 1 _ rfl, hc 2 _ rfl, hc 3 _ rfl, hc 4 _ rfl, hx⟩, hr.repC fun j u hj => ?_⟩
    have := hc (j + 5) u (by simpa using hj)
    rw [show off + 5 + j = off + (j + 5) by omega]; exact this

/-- A row of the call's own reads as a slice of the data. -/
theorem repS_of_row {w : World} {base B : Nat} {v : Value} {l : List Dat} {xs : List Value} (hown : w.ownsRow base 66 5 v l.length xs) (hc : CellsD w B l xs) (hB : B ≤ w.heap.size) : RepS w w.heap.size l v := by
  rcases hown.2 with ⟨hv, h0⟩ | ⟨g, cap, cur, hv, hb, hg, hle, hm, hsz, htk⟩
  · have : l = [] := List.eq_nil_of_length_eq_zero h0
    subst this
    exact ⟨none, 0, 0, hv, rfl, by omega, by omega, rfl, rfl⟩
  · have hlt := (Array.getElem?_eq_some_iff.1 hg).1
    refine ⟨some ⟨g, 0, none⟩, l.length, cap, hv, rfl, hle, by unfold maxLen at hm; omega, fun _ => ⟨rfl, hlt⟩, ?_⟩
    refine (hc.mono (fun x v h => h.wider hB)).repC fun j u hj => ?_
    rw [← htk] at hj
    rw [List.getElem?_take] at hj
    split at hj
    · unfold World.cell?
      rw [hg, Nat.zero_add]
      simpa using hj
    · cases hj

/-- The five cells of a new block. -/
theorem new_five (w : World) (a0 a1 a2 a3 a4 : Value) (t : TypeId) : ∀ (j : Nat) (u : Value), [a0, a1, a2, a3, a4][j]? = some u → (w.alloc (.cells #[a0, a1, a2, a3, a4] t)).cell? ((⟨w.heap.size, 0, none⟩ : Addr).add j) = some u := by
  intro j u hj
  have e : (⟨w.heap.size, 0, none⟩ : Addr).add j = ⟨w.heap.size, j, none⟩ := by unfold Addr.add; split <;> simp_all
  rw [e]
  exact box_cell w _ t j (by simpa using hj)

/-- The cells of data that came in. -/
theorem repC_cells {w : World} {B b : Nat} : ∀ {l : List Dat} {off : Nat}, RepC w B l b off → ∃ xs, CellsD w B l xs ∧ ∀ j u, xs[j]? = some u → w.cell? ⟨b, off + j, none⟩ = some u
  | [], _, _ => ⟨[], rfl, fun j u h => by simp at h⟩
  | x :: l, off, h => by
    rw [RepC] at h
    obtain ⟨⟨c0, c1, c2, c3, c4, h0, h1, h2, h3, h4, hx⟩, hr⟩ := h
    obtain ⟨xs, hc, hcell⟩ := repC_cells hr
    refine ⟨c0 :: c1 :: c2 :: c3 :: c4 :: xs, ⟨c0, c1, c2, c3, c4, xs, rfl, hx, hc⟩, fun j u hj => ?_⟩
    match j, hj with
    | 0, hj => simp at hj; rw [← hj]; exact h0
    | 1, hj => simp at hj; rw [← hj]; exact h1
    | 2, hj => simp at hj; rw [← hj]; exact h2
    | 3, hj => simp at hj; rw [← hj]; exact h3
    | 4, hj => simp at hj; rw [← hj]; exact h4
    | j + 5, hj =>
      have := hcell j u (by simpa using hj)
      rw [show off + (j + 5) = off + 5 + j by omega]; exact this

/-- Five cells overwritten: one datum is another. -/
theorem CellsD.set {w : World} {B : Nat} {y : Dat} {d0 d1 d2 d3 d4 : Value} (hy : RepD w B y (.agg #[d0, d1, d2, d3, d4])) : ∀ {l : List Dat} {xs : List Value} {i : Nat}, i < l.length → CellsD w B l xs →
    CellsD w B (l.set i y) (((((xs.set (i * 5) d0).set (i * 5 + 1) d1).set (i * 5 + 2) d2).set (i * 5 + 3) d3).set (i * 5 + 4) d4)
  | [], _, _, hi, _ => by simp at hi
  | _ :: l, _, 0, _, ⟨c0, c1, c2, c3, c4, r, he, _, hr⟩ => ⟨d0, d1, d2, d3, d4, r, by rw [he]; rfl, hy, hr⟩
  | _ :: l, _, i + 1, hi, ⟨c0, c1, c2, c3, c4, r, he, hx, hr⟩ => by
    refine ⟨c0, c1, c2, c3, c4, _, ?_, hx, CellsD.set hy (i := i) (by simpa using hi) hr⟩
    rw [he, show (i + 1) * 5 = i * 5 + 5 by omega]
    rfl
theorem CellsD.oneCell {w : World} {B : Nat} : ∀ {l : List Dat} {xs : List Value}, CellsD w B l xs → ∀ u ∈ xs, u.oneCell' = true
  | [], _, h, u, hu => by rw [CellsD] at h; rw [h] at hu; cases hu
  | x :: l, _, ⟨c0, c1, c2, c3, c4, r, he, hx, hr⟩, u, hu => by
    obtain ⟨k, n, d, s, o, len, cap, hv⟩ := agg_of hx
    simp only [Value.agg.injEq, Array.mk.injEq, List.cons.injEq, and_true] at hv
    obtain ⟨rfl, rfl, rfl, rfl, rfl⟩ := hv
    subst he
    simp only [List.mem_cons] at hu
    rcases hu with rfl | rfl | rfl | rfl | rfl | hu
    · rfl
    · rfl
    · rfl
    · rfl
    · rfl
    · exact hr.oneCell u hu

/-- Five stores into a row. -/
abbrev put5 (W : World) (g o : Nat) (d0 d1 d2 d3 d4 : Value) : World := ((((W.setCell ⟨g, o, none⟩ d0).setCell ⟨g, o + 1, none⟩ d1).setCell ⟨g, o + 2, none⟩ d2).setCell ⟨g, o + 3, none⟩ d3).setCell ⟨g, o + 4, none⟩ d4
theorem put5_heap (W : World) (g o : Nat) (d0 d1 d2 d3 d4 : Value) {c : Nat} (h : c ≠ g) : (put5 W g o d0 d1 d2 d3 d4).heap[c]? = W.heap[c]? := by
  unfold put5
  rw [setCell_heap_other _ _ _ h, setCell_heap_other _ _ _ h, setCell_heap_other _ _ _ h, setCell_heap_other _ _ _ h, setCell_heap_other _ _ _ h]
theorem put5_size (W : World) (g o : Nat) (d0 d1 d2 d3 d4 : Value) : (put5 W g o d0 d1 d2 d3 d4).heap.size = W.heap.size := by simp [put5]
theorem put5_below (W : World) (g o H : Nat) (d0 d1 d2 d3 d4 : Value) (h : H ≤ g) : Below H W (put5 W g o d0 d1 d2 d3 d4) :=
  (((((Below.refl H W).setCell (p := ⟨g, o, none⟩) h _).setCell (p := ⟨g, o + 1, none⟩) h _).setCell (p := ⟨g, o + 2, none⟩) h _).setCell (p := ⟨g, o + 3, none⟩) h _).setCell (p := ⟨g, o + 4, none⟩) h _
theorem put5_row {W : World} {base g n cap o : Nat} {e : TypeId} {size : Nat} {xs : List Value} (h : W.ownsRow base e size (.slice (some ⟨g, 0, none⟩) n cap) n xs) (d0 d1 d2 d3 d4 : Value) :
    (put5 W g o d0 d1 d2 d3 d4).ownsRow base e size (.slice (some ⟨g, 0, none⟩) n cap) n (((((xs.set o d0).set (o + 1) d1).set (o + 2) d2).set (o + 3) d3).set (o + 4) d4) :=
  ((((h.stored o d0).1.stored (o + 1) d1).1.stored (o + 2) d2).1.stored (o + 3) d3).1.stored (o + 4) d4 |>.1
theorem Box5.put4 {W : World} {B : Nat} {t : TypeId} {c0 c1 c2 c3 c4 : Value} (h : Box5 W B t c0 c1 c2 c3 c4) (d4 : Value) : Box5 (W.setCell ⟨B, 4, none⟩ d4) B t c0 c1 c2 c3 d4 := by
  simp only [Box5, World.setCell, Array.getElem?_modify, ↓reduceIte]
  rw [show W.heap[B]? = _ from h]
  rfl
end Go.Proofs.YtdlhocghiaghfaaGreatDoor
