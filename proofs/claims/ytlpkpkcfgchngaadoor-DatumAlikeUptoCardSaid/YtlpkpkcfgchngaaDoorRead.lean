/-
  What the row's reading of an argument gives: a datum.
-/
import Derived.Test.YtlpkpkcfgchngaaDoorRep
import Derived.Test.YtlpkpkcfgchngaaDoorLaw
import Derived.Deep.Slices
import Derived.SizedLaws
namespace Go.Proofs.YtlpkpkcfgchngaaDoor
open Go.RowKit Go.Deep

section
variable {H : Type} {enc : TypeId × Value → H}

theorem cells_datum : Tryd.prog.cellsOf 24 = 5 := by kernel_rfl
theorem cells_int : Tryd.prog.cellsOf 3 = 1 := by kernel_rfl
theorem cells_string : Tryd.prog.cellsOf 9 = 1 := by kernel_rfl
theorem cells_data : Tryd.prog.cellsOf 22 = 1 := by kernel_rfl
theorem bytes_datum : Tryd.prog.bytesOf 24 = 64 := by kernel_rfl

theorem weightsAll_mem {P : Program} {e : TypeId} : ∀ {l : List (DataW H)} {d : DataW H}, d ∈ l → ∀ n ∈ d.weights P e, n ∈ DataW.weightsAll P e l
  | d' :: r, d, hd, n, hn => by
    simp only [DataW.weightsAll, List.mem_append]
    rcases List.mem_cons.1 hd with rfl | h
    · exact Or.inl hn
    · exact Or.inr (weightsAll_mem h n hn)

theorem weightsEach_mem {P : Program} : ∀ {ts : List TypeId} {l : List (DataW H)} (i : Nat) {t : TypeId} {d : DataW H}, ts[i]? = some t → l[i]? = some d → ∀ n ∈ d.weights P t, n ∈ DataW.weightsEach P ts l
  | t' :: ts, d' :: r, 0, t, d, ht, hd, n, hn => by
    simp only [List.getElem?_cons_zero, Option.some.injEq] at ht hd
    subst ht; subst hd
    simp only [DataW.weightsEach, List.mem_append]; exact Or.inl hn
  | t' :: ts, d' :: r, i + 1, t, d, ht, hd, n, hn => by
    simp only [DataW.weightsEach, List.mem_append]
    exact Or.inr (weightsEach_mem i (by simpa using ht) (by simpa using hd) n hn)
  | [], _, i, t, d, ht, _, _, _ => by simp at ht
  | _ :: _, [], i, t, d, _, hd, _, _ => by simp at hd

theorem repC_build {w : World} {B b : Nat} : ∀ (len off : Nat), (∀ i, i < len → ∃ x c0 c1 c2 c3 c4, w.cell? ⟨b, off + i * 5, none⟩ = some c0 ∧ w.cell? ⟨b, off + i * 5 + 1, none⟩ = some c1 ∧ w.cell? ⟨b, off + i * 5 + 2, none⟩ = some c2 ∧ w.cell? ⟨b, off + i * 5 + 3, none⟩ = some c3 ∧ w.cell? ⟨b, off + i * 5 + 4, none⟩ = some c4 ∧ RepD w B x (.agg #[c0, c1, c2, c3, c4])) →
    ∃ l : List Dat, l.length = len ∧ RepC w B l b off
  | 0, off, _ => ⟨[], rfl, by rw [RepC]; trivial⟩
  | len + 1, off, h => by
    obtain ⟨x, c0, c1, c2, c3, c4, h0, h1, h2, h3, h4, h5⟩ := h 0 (by omega)
    obtain ⟨l, hl, hr⟩ := repC_build len (off + 5) (fun i hi => by
      have := h (i + 1) (by omega)
      have e : off + (i + 1) * 5 = off + 5 + i * 5 := by omega
      rw [e] at this; exact this)
    refine ⟨x :: l, by simp [hl], ?_⟩
    rw [RepC]
    simp only [Nat.zero_mul, Nat.add_zero] at h0 h1 h2 h3 h4
    exact ⟨⟨c0, c1, c2, c3, c4, h0, h1, h2, h3, h4, h5⟩, hr⟩

theorem add_none {a : Addr} (h : a.spot = none) (n : Nat) : a.add n = ⟨a.block, a.off + n, none⟩ := by
  obtain ⟨b, o, sp⟩ := a
  simp only at h
  subst h
  unfold Addr.add
  split
  · rename_i h0; subst h0; rfl
  · rfl

theorem cell_spot {w : World} {a : Addr} {v : Value} (h : w.cell? a = some v) : a.spot = none ∧ a.block < w.heap.size := by
  unfold World.cell? at h
  split at h
  · rename_i he
    split at h
    · cases h
    · rename_i hs
      refine ⟨by simpa using hs, ?_⟩
      exact (Array.getElem?_eq_some_iff.1 he).1
  · cases h

set_option maxRecDepth 100000 in
theorem rep_of_trod {w : World} : ∀ (fuel : Nat) (cs : List Value) (y : DataW H × List MemPlace), DataW.trod enc Tryd.prog w 0 (fun _ => true) true fuel 24 cs = some y →
    (∀ n ∈ y.1.weights Tryd.prog 24, n ≤ reachBytes) → ∃ x, RepD w w.heap.size x (.agg cs.toArray) := by
  intro fuel
  induction fuel using Nat.strongRecOn with
  | ind fuel ih =>
    intro cs y h hw
    obtain ⟨xs, n, rfl, rfl, hlen, hxs, hget⟩ := DataW.trod_struct Tryd.underlying24 h
    rw [cells_datum] at hlen
    match cs, hlen with
    | [c0, c1, c2, c3, c4], _ =>
      have g0 : DataW.trod enc Tryd.prog w 0 (fun _ => true) true n 3 (([c0, c1, c2, c3, c4].drop 0).take (Tryd.prog.cellsOf 3)) = xs[0]? := hget 0 _ rfl
      have g1 : DataW.trod enc Tryd.prog w 0 (fun _ => true) true n 3 (([c0, c1, c2, c3, c4].drop 1).take (Tryd.prog.cellsOf 3)) = xs[1]? := hget 1 _ rfl
      have g2 : DataW.trod enc Tryd.prog w 0 (fun _ => true) true n 3 (([c0, c1, c2, c3, c4].drop 2).take (Tryd.prog.cellsOf 3)) = xs[2]? := hget 2 _ rfl
      have g3 : DataW.trod enc Tryd.prog w 0 (fun _ => true) true n 9 (([c0, c1, c2, c3, c4].drop 3).take (Tryd.prog.cellsOf 9)) = xs[3]? := hget 3 _ rfl
      have g4 : DataW.trod enc Tryd.prog w 0 (fun _ => true) true n 22 (([c0, c1, c2, c3, c4].drop 4).take (Tryd.prog.cellsOf 22)) = xs[4]? := hget 4 _ rfl
      rw [cells_int] at g0 g1 g2
      rw [cells_string] at g3
      rw [cells_data] at g4
      have hx5 : xs.length = 5 := hxs
      match xs, hx5 with
      | [x0, x1, x2, x3, x4], _ =>
        obtain ⟨k, e0, _, w0⟩ := DataW.trod_int Tryd.underlying3 (show _ = some x0 from g0)
        obtain ⟨m, e1, _, w1⟩ := DataW.trod_int Tryd.underlying3 (show _ = some x1 from g1)
        obtain ⟨d, e2, _, w2⟩ := DataW.trod_int Tryd.underlying3 (show _ = some x2 from g2)
        obtain ⟨s, e3, hx3, _⟩ := DataW.trod_string Tryd.underlying9 (show _ = some x3 from g3)
        have f0 : c0 = .int .i64 k := by simpa using e0
        have f1 : c1 = .int .i64 m := by simpa using e1
        have f2 : c2 = .int .i64 d := by simpa using e2
        have f3 : c3 = .string s := by simpa using e3
        subst f0 f1 f2 f3 hx3
        have we : ∀ (i : Nat) (t : TypeId) (z : DataW H), [3, 3, 3, 9, 22][i]? = some t → [x0.1, x1.1, x2.1, DataW.lit (Lit.string s.data.toList), x4.1][i]? = some z → ∀ n ∈ z.weights Tryd.prog t, n ≤ reachBytes := by
          intro i t z ht hz q hq
          refine hw q ?_
          show q ∈ DataW.weights Tryd.prog 24 (.agg _)
          simp only [DataW.weights, Tryd.underlying24]
          exact weightsEach_mem i ht hz q hq
        have hs : s.size ≤ 140737488351232 := we 3 9 _ rfl rfl s.data.toList.length (by simp [DataW.weights])
        have w4 := we 4 22 _ rfl rfl
        rcases DataW.trod_slice Tryd.underlying22 (show _ = some x4 from g4) with ⟨e4, _⟩ | ⟨a, len, cap, elems, rest, n', rfl, e4, hx4, _, hle, _, hel, hget4, hsp, _⟩
        · have f4 : c4 = .slice none 0 0 := by simpa using e4
          subst f4
          exact ⟨.mk k m d s [], RepD.shut (bounds_i64 w0) (bounds_i64 w1) (bounds_i64 w2) hs ⟨none, 0, 0, rfl, rfl, by omega, by omega, rfl, rfl⟩⟩
        · have f4 : c4 = .slice (some a) len cap := by simpa using e4
          subst f4 hx4
          have hrest := (hsp rfl).1
          have hcap : cap ≤ 9223372036854775807 := by
            have := w4 ((elems.length + rest.length) * 64) (by simp [DataW.weights, Tryd.underlying22, bytes_datum])
            have h9 : (elems.length + rest.length) * 64 ≤ 140737488351232 := this
            omega
          by_cases h0 : len = 0
          · subst h0
            exact ⟨.mk k m d s [], RepD.shut (bounds_i64 w0) (bounds_i64 w1) (bounds_i64 w2) hs ⟨some a, 0, cap, rfl, rfl, by omega, hcap, fun h => absurd rfl h, by rw [RepC]; trivial⟩⟩
          have hat : ∀ i (hi : i < len), ∃ cs', w.cells? 0 (a.add (i * 5)) 5 = some cs' ∧ DataW.trod enc Tryd.prog w 0 (fun _ => true) true n' 24 cs' = some (elems[i]'(by omega)) := by
            intro i hi
            have hb := hget4 i hi
            rw [cells_datum, List.getElem?_eq_getElem (by omega)] at hb
            exact Option.bind_eq_some_iff.1 hb
          obtain ⟨hspot, hblk⟩ : a.spot = none ∧ a.block < w.heap.size := by
            obtain ⟨cs', hc1, _⟩ := hat 0 (by omega)
            obtain ⟨_, hl5, hcs⟩ := World.cells?_some hc1
            have h00 := hcs 0 (by omega)
            rw [List.getElem?_eq_getElem (by omega)] at h00
            have := cell_spot h00
            simpa [Addr.add] using this
          have hcell : ∀ i, i < len → ∃ x c0 c1 c2 c3 c4, w.cell? ⟨a.block, a.off + i * 5, none⟩ = some c0 ∧ w.cell? ⟨a.block, a.off + i * 5 + 1, none⟩ = some c1 ∧ w.cell? ⟨a.block, a.off + i * 5 + 2, none⟩ = some c2 ∧ w.cell? ⟨a.block, a.off + i * 5 + 3, none⟩ = some c3 ∧ w.cell? ⟨a.block, a.off + i * 5 + 4, none⟩ = some c4 ∧ RepD w w.heap.size x (.agg #[c0, c1, c2, c3, c4]) := by
            intro i hi
            obtain ⟨cs', hc1, hc2⟩ := hat i hi
            obtain ⟨_, hl5, hcs⟩ := World.cells?_some hc1
            rw [add_none hspot] at hcs
            have hcs2 : ∀ j, j < 5 → w.cell? ⟨a.block, a.off + i * 5 + j, none⟩ = cs'[j]? := by
              intro j hj
              have := hcs j hj
              rw [add_none rfl] at this
              exact this
            match cs', hl5 with
            | [a0, a1, a2, a3, a4], _ =>
              obtain ⟨x, hx⟩ := ih n' (by omega) _ _ hc2 (fun q hq => w4 q (by
                simp only [DataW.weights, Tryd.underlying22, List.mem_cons, List.mem_append]
                refine Or.inr (Or.inl (weightsAll_mem (d := (elems[i]'(by omega)).1) ?_ q hq))
                exact List.mem_map_of_mem (List.getElem_mem _)))
              exact ⟨x, a0, a1, a2, a3, a4, hcs2 0 (by omega), hcs2 1 (by omega), hcs2 2 (by omega), hcs2 3 (by omega), hcs2 4 (by omega), hx⟩
          obtain ⟨l, hl, hr⟩ := repC_build len a.off hcell
          exact ⟨.mk k m d s l, RepD.shut (bounds_i64 w0) (bounds_i64 w1) (bounds_i64 w2) hs ⟨some a, len, cap, rfl, hl.symm, hle, hcap, fun _ => ⟨hspot, hblk⟩, hr⟩⟩
end
end Go.Proofs.YtlpkpkcfgchngaaDoor
