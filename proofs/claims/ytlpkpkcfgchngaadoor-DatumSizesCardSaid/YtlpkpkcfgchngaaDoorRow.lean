/-
  A row of the call's own that holds data.
-/
import Derived.Test.YtlpkpkcfgchngaaDoorRep2
import Derived.Laws.AppendOwn
namespace Go.Proofs.YtlpkpkcfgchngaaDoor
open Go.RowKit

theorem info_datum : (Tryd.prog.info? 24).map (fun i => (i.zero, i.size, i.bytes)) = some (some (.agg #[.int .i64 0, .int .i64 0, .int .i64 0, .string ⟨#[]⟩, .slice none 0 0]), 5, 64) := by kernel_rfl

/-- The cells read as the data, five cells each. -/
def CellsD (w : World) (B : Nat) : List Dat → List Value → Prop
  | [], xs => xs = []
  | x :: l, xs => ∃ c0 c1 c2 c3 c4 r, xs = c0 :: c1 :: c2 :: c3 :: c4 :: r ∧ RepD w B x (.agg #[c0, c1, c2, c3, c4]) ∧ CellsD w B l r

theorem CellsD.length {w : World} {B : Nat} : ∀ {l : List Dat} {xs : List Value}, CellsD w B l xs → xs.length = l.length * 5
  | [], _, h => by rw [CellsD] at h; rw [h]; rfl
  | _ :: l, _, ⟨_, _, _, _, _, r, he, _, hr⟩ => by rw [he]; simp only [List.length_cons, hr.length]; omega
theorem CellsD.mono {w w' : World} {B B' : Nat} (hk : ∀ x v, RepD w B x v → RepD w' B' x v) : ∀ {l : List Dat} {xs : List Value}, CellsD w B l xs → CellsD w' B' l xs
  | [], _, h => h
  | _ :: _, _, ⟨c0, c1, c2, c3, c4, r, he, hx, hr⟩ => ⟨c0, c1, c2, c3, c4, r, he, hk _ _ hx, hr.mono hk⟩
theorem CellsD.snoc {w : World} {B : Nat} {x : Dat} {c0 c1 c2 c3 c4 : Value} (hx : RepD w B x (.agg #[c0, c1, c2, c3, c4])) : ∀ {l : List Dat} {xs : List Value}, CellsD w B l xs → CellsD w B (l ++ [x]) (xs ++ [c0, c1, c2, c3, c4])
  | [], _, h => by rw [CellsD] at h; rw [h]; exact ⟨c0, c1, c2, c3, c4, [], rfl, hx, rfl⟩
  | _ :: _, _, ⟨a0, a1, a2, a3, a4, r, he, hy, hr⟩ => ⟨a0, a1, a2, a3, a4, r ++ [c0, c1, c2, c3, c4], by rw [he]; rfl, hy, hr.snoc hx⟩

theorem CellsD.repC {w : World} {B b : Nat} : ∀ {l : List Dat} {xs : List Value} {off : Nat}, CellsD w B l xs → (∀ j u, xs[j]? = some u → w.cell? ⟨b, off + j, none⟩ = some u) → RepC w B l b off
  | [], _, _, _, _ => by rw [RepC]; trivial
  | x :: l, _, off, ⟨c0, c1, c2, c3, c4, r, he, hx, hr⟩, hc => by
    subst he
    rw [RepC]
    refine ⟨⟨c0, c1, c2, c3, c4, hc 0 _ rfl, hc 1 _ rfl, hc 2 _ rfl, hc 3 _ rfl, hc 4 _ rfl, hx⟩, hr.repC fun j u hj => ?_⟩
    have := hc (j + 5) u (by simpa using hj)
    rw [show off + 5 + j = off + (j + 5) by omega]; exact this

/-- A row of the call's own reads as a slice of the data. -/
theorem repS_of_row {w : World} {base B : Nat} {v : Value} {l : List Dat} {xs : List Value} (hown : w.ownsRow base 24 5 v l.length xs) (hc : CellsD w B l xs) (hB : B ≤ w.heap.size) : RepS w w.heap.size l v := by
  rcases hown.2 with ⟨hv, h0⟩ | ⟨g, cap, cur, hv, hb, hg, hle, hm, hsz, htk⟩
  · have : l = [] := List.eq_nil_of_length_eq_zero h0
    subst this
    exact ⟨none, 0, 0, hv, rfl, by omega, by omega, rfl, rfl⟩
  · have hlt := (Array.getElem?_eq_some_iff.1 hg).1
    refine ⟨some ⟨g, 0, none⟩, l.length, cap, hv, rfl, hle, by unfold maxLen at hm; omega, fun _ => ⟨rfl, hlt⟩, ?_⟩
    refine (hc.mono (fun x v h => h.wider hB)).repC fun j u hj => ?_
    rw [← htk] at hj
    rw [List.getElem?_take] at hj
    split at hj
    · unfold World.cell?
      rw [hg, Nat.zero_add]
      simpa using hj
    · cases hj

/-- The five cells of a new block. -/
theorem new_five (w : World) (a0 a1 a2 a3 a4 : Value) (t : TypeId) : ∀ (j : Nat) (u : Value), [a0, a1, a2, a3, a4][j]? = some u → (w.alloc (.cells #[a0, a1, a2, a3, a4] t)).cell? ((⟨w.heap.size, 0, none⟩ : Addr).add j) = some u := by
  intro j u hj
  have e : (⟨w.heap.size, 0, none⟩ : Addr).add j = ⟨w.heap.size, j, none⟩ := by unfold Addr.add; split <;> simp_all
  rw [e]
  exact box_cell w _ t j (by simpa using hj)
end Go.Proofs.YtlpkpkcfgchngaaDoor
