/-
  A law's arguments as data: structs, slices.
-/
import Derived.Test.YtlpkpkcfgchngaaDoorRead
import Derived.Test.YtlpkpkcfgchngaaDoorTwo
namespace Go.Proofs.YtlpkpkcfgchngaaDoor
open Go.RowKit Go.Deep Go.ChangeShapes Go.WideShapes Go.ChangeAt

section
variable {H : Type} {enc : TypeId × Value → H}

set_option maxRecDepth 100000 in
theorem repS_of_trod {w : World} (fuel : Nat) (c4 : Value) (x4 : DataW H × List MemPlace) (g4 : DataW.trod enc Tryd.prog w 0 (fun _ => true) true fuel 22 [c4] = some x4) (w4 : ∀ n ∈ x4.1.weights Tryd.prog 22, n ≤ reachBytes) : ∃ l, RepS w w.heap.size l c4 := by
  rcases DataW.trod_slice Tryd.underlying22 g4 with ⟨e4, _⟩ | ⟨a, len, cap, elems, rest, n', rfl, e4, hx4, _, hle, _, hel, hget4, hsp, _⟩
  · have f4 : c4 = .slice none 0 0 := by simpa using e4
    subst f4
    exact ⟨[], none, 0, 0, rfl, rfl, by omega, by omega, rfl, rfl⟩
  · have f4 : c4 = .slice (some a) len cap := by simpa using e4
    subst f4 hx4
    have hrest := (hsp rfl).1
    have hcap : cap ≤ 9223372036854775807 := by
      have := w4 ((elems.length + rest.length) * 64) (by simp [DataW.weights, Tryd.underlying22, bytes_datum])
      have h9 : (elems.length + rest.length) * 64 ≤ 140737488351232 := this
      omega
    by_cases h0 : len = 0
    · subst h0
      exact ⟨[], some a, 0, cap, rfl, rfl, by omega, hcap, fun h => absurd rfl h, by rw [RepC]; trivial⟩
    have hat : ∀ i (hi : i < len), ∃ cs', w.cells? 0 (a.add (i * 5)) 5 = some cs' ∧ DataW.trod enc Tryd.prog w 0 (fun _ => true) true n' 24 cs' = some (elems[i]'(by omega)) := by
      intro i hi
      have hb := hget4 i hi
      rw [cells_datum, List.getElem?_eq_getElem (by omega)] at hb
      exact Option.bind_eq_some_iff.1 hb
    obtain ⟨hspot, hblk⟩ : a.spot = none ∧ a.block < w.heap.size := by
      obtain ⟨cs', hc1, _⟩ := hat 0 (by omega)
      obtain ⟨_, hl5, hcs⟩ := World.cells?_some hc1
      have h00 := hcs 0 (by omega)
      rw [List.getElem?_eq_getElem (by omega)] at h00
      have := cell_spot h00
      simpa [Addr.add] using this
    have hcell : ∀ i, i < len → ∃ x c0 c1 c2 c3 c4, w.cell? ⟨a.block, a.off + i * 5, none⟩ = some c0 ∧ w.cell? ⟨a.block, a.off + i * 5 + 1, none⟩ = some c1 ∧ w.cell? ⟨a.block, a.off + i * 5 + 2, none⟩ = some c2 ∧ w.cell? ⟨a.block, a.off + i * 5 + 3, none⟩ = some c3 ∧ w.cell? ⟨a.block, a.off + i * 5 + 4, none⟩ = some c4 ∧ RepD w w.heap.size x (.agg #[c0, c1, c2, c3, c4]) := by
      intro i hi
      obtain ⟨cs', hc1, hc2⟩ := hat i hi
      obtain ⟨_, hl5, hcs⟩ := World.cells?_some hc1
      rw [add_none hspot] at hcs
      have hcs2 : ∀ j, j < 5 → w.cell? ⟨a.block, a.off + i * 5 + j, none⟩ = cs'[j]? := by
        intro j hj
        have := hcs j hj
        rw [add_none rfl] at this
        exact this
      match cs', hl5 with
      | [a0, a1, a2, a3, a4], _ =>
        obtain ⟨x, hx⟩ := rep_of_trod n' _ _ hc2 (fun q hq => w4 q (by
          simp only [DataW.weights, Tryd.underlying22, List.mem_cons, List.mem_append]
          refine Or.inr (Or.inl (weightsAll_mem (d := (elems[i]'(by omega)).1) ?_ q hq))
          exact List.mem_map_of_mem (List.getElem_mem _)))
        exact ⟨x, a0, a1, a2, a3, a4, hcs2 0 (by omega), hcs2 1 (by omega), hcs2 2 (by omega), hcs2 3 (by omega), hcs2 4 (by omega), hx⟩
    obtain ⟨l, hl, hr⟩ := repC_build len a.off hcell
    exact ⟨l, some a, len, cap, rfl, hl.symm, hle, hcap, fun _ => ⟨hspot, hblk⟩, hr⟩

set_option maxRecDepth 100000 in
/-- An argument that is a slice of data. -/
theorem open_data {W : World} {r : Reach} {b0 : Nat} {v : Value} {d : DataW H} {ps : List MemPlace} (hval : Value.okWide Tryd.prog W r b0 22 v) (hd : DataW.Trod enc Tryd.prog W 0 (fun _ => true) true 22 v d ps) (hw : ∀ n ∈ d.weights Tryd.prog 22, n ≤ reachBytes) : ∃ l, RepS W W.heap.size l v := by
  obtain ⟨a0, len, cap, rfl⟩ := okWide_slice Tryd.underlying22 hval
  obtain ⟨fuel, hf⟩ := hd
  exact repS_of_trod fuel _ (d, ps) (by simpa [Value.cells] using hf) hw

set_option maxRecDepth 100000 in
/-- .. that is a datum. -/
theorem open_datum {W : World} {r : Reach} {b0 : Nat} {v : Value} {d : DataW H} {ps : List MemPlace} (hval : Value.okWide Tryd.prog W r b0 24 v) (hd : DataW.Trod enc Tryd.prog W 0 (fun _ => true) true 24 v d ps) (hw : ∀ n ∈ d.weights Tryd.prog 24, n ≤ reachBytes) : ∃ x, RepD W W.heap.size x v := by
  unfold Value.okWide at hval
  rw [Tryd.underlying24] at hval
  obtain ⟨⟨l⟩, rfl, _⟩ := hval
  obtain ⟨fuel, hf⟩ := hd
  obtain ⟨x, hx⟩ := rep_of_trod fuel l (d, ps) (by simpa [Value.cells] using hf) hw
  exact ⟨x, hx⟩

set_option maxRecDepth 100000 in
/-- An argument's weights are within the reach. -/
theorem weights_at {ts : List TypeId} {l : List (DataW H)} (h : (DataW.weightsEach Tryd.prog ts l).all (· ≤ reachBytes) = true) (i : Nat) {t : TypeId} {d : DataW H} (ht : ts[i]? = some t) (hd : l[i]? = some d) : ∀ n ∈ d.weights Tryd.prog t, n ≤ reachBytes := fun n hn => by
  have := List.all_eq_true.1 h n (weightsEach_mem i ht hd n hn)
  simpa using this
end
end Go.Proofs.YtlpkpkcfgchngaaDoor
