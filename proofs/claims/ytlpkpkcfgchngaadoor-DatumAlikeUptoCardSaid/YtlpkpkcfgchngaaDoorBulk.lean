/-
  The bulk of a datum: what the second form's bound gives a text's length.
-/
import Derived.Test.YtlpkpkcfgchngaaDoorRead
import Derived.Test.YtlpkpkcfgchngaaDoorOpen
import Derived.Test.YtlpkpkcfgchngaaDoorDatLaw
import Derived.Lib.ItoaLen
namespace Go.Proofs.YtlpkpkcfgchngaaDoor
open Go.RowKit Go.Deep Go.ChangeShapes Go.WideShapes Go.ChangeAt

namespace Dat
mutual
def bulk : Dat → Nat
  | mk _ _ _ s l => s.size + 1 + bulkL l
def bulkL : List Dat → Nat
  | [] => 0
  | x :: l => bulk x + bulkL l
end

theorem num_text_len (n d : Int) : (Num.text n d).length ≤ 43 := by
  unfold Num.text
  split
  · rename_i h
    obtain ⟨h1, h2, h3, h4, _⟩ := (Num.right_iff n d).1 h
    have l1 := Lib.itoa_length_le n (by omega) (by omega)
    have l2 := Lib.itoa_length_le d (by omega) (by omega)
    split <;> simp <;> omega
  · simp

mutual
theorem text_len : ∀ (x : Dat) (tl : Bool), (text x tl).length + 1 ≤ 50 * bulk x
  | mk k n d s l, tl => by
    have hP := textP_len l
    have hA := textA_len k n d s l
    rw [text, bulk]
    split
    · split <;> simp <;> omega
    · split
      · split
        · simp only [List.length_nil]; omega
        · simp only [List.length_cons, List.length_append, List.length_nil]; omega
      · omega
theorem textA_len : ∀ (k n d : Int) (s : ByteArray) (l : List Dat), (textA k n d s l).length + 4 ≤ 50 * (s.size + 1 + bulkL l)
  | k, n, d, s, l => by
    have hV := textV_len l true
    have hN := num_text_len n d
    have hs : s.data.toList.length = s.size := rfl
    rw [textA]
    repeat' split
    all_goals (try simp only [List.length_cons, List.length_append, List.length_nil])
    all_goals omega
theorem textP_len : ∀ (l : List Dat), (textP l).length ≤ 50 * bulkL l
  | [a, b] => by
    have h1 := text_len a false
    have h2 := text_len b true
    rw [textP]
    simp only [List.length_append, bulkL]
    omega
  | [] => by rw [textP] <;> simp
  | [a] => by rw [textP] <;> simp
  | a :: b :: c :: l => by rw [textP] <;> simp
theorem textV_len : ∀ (l : List Dat) (f : Bool), (textV l f).length ≤ 50 * bulkL l
  | [], _ => by rw [textV]; simp
  | x :: l, f => by
    have h1 := text_len x false
    have h2 := textV_len l false
    rw [textV, bulkL]
    cases f <;> simp <;> omega
end
end Dat

section
variable {H : Type} {enc : TypeId × Value → H}

theorem bulk_le {x0 x1 x2 x4 : DataW H} {k n d : Int} {s : ByteArray} {l : List Dat} (h : Dat.bulkL l ≤ Rows.uptoBulk x4) : Dat.bulk (.mk k n d s l) ≤ Rows.uptoBulk (DataW.agg [x0, x1, x2, .lit (.string s.data.toList), x4]) := by
  have hs : s.data.toList.length = s.size := rfl
  simp only [Dat.bulk, Rows.uptoBulk, Rows.uptoBulkAll]
  omega

theorem repC_buildB {w : World} {B b : Nat} : ∀ (es : List (DataW H)) (off : Nat), (∀ i (hi : i < es.length), ∃ x c0 c1 c2 c3 c4, w.cell? ⟨b, off + i * 5, none⟩ = some c0 ∧ w.cell? ⟨b, off + i * 5 + 1, none⟩ = some c1 ∧ w.cell? ⟨b, off + i * 5 + 2, none⟩ = some c2 ∧ w.cell? ⟨b, off + i * 5 + 3, none⟩ = some c3 ∧ w.cell? ⟨b, off + i * 5 + 4, none⟩ = some c4 ∧ RepD w B x (.agg #[c0, c1, c2, c3, c4]) ∧ Dat.bulk x ≤ Rows.uptoBulk es[i]) →
    ∃ l : List Dat, l.length = es.length ∧ RepC w B l b off ∧ Dat.bulkL l ≤ Rows.uptoBulkAll es
  | [], off, _ => ⟨[], rfl, by rw [RepC]; trivial, Nat.le_refl _⟩
  | e :: es, off, h => by
    obtain ⟨x, c0, c1, c2, c3, c4, h0, h1, h2, h3, h4, h5, h6⟩ := h 0 (by simp)
    obtain ⟨l, hl, hr, hb⟩ := repC_buildB es (off + 5) (fun i hi => by
      have := h (i + 1) (by simpa using hi)
      have e : off + (i + 1) * 5 = off + 5 + i * 5 := by omega
      rw [e] at this; simpa using this)
    refine ⟨x :: l, by simp [hl], ?_, ?_⟩
    · rw [RepC]
      simp only [Nat.zero_mul, Nat.add_zero] at h0 h1 h2 h3 h4
      exact ⟨⟨c0, c1, c2, c3, c4, h0, h1, h2, h3, h4, h5⟩, hr⟩
    · simp only [Dat.bulkL, Rows.uptoBulkAll]
      have : Dat.bulk x ≤ Rows.uptoBulk e := by simpa using h6
      omega

set_option maxRecDepth 100000 in
theorem rep_of_trodB {w : World} : ∀ (fuel : Nat) (cs : List Value) (y : DataW H × List MemPlace), DataW.trod enc Tryd.prog w 0 (fun _ => true) true fuel 24 cs = some y →
    (∀ n ∈ y.1.weights Tryd.prog 24, n ≤ reachBytes) → ∃ x, RepD w w.heap.size x (.agg cs.toArray) ∧ Dat.bulk x ≤ Rows.uptoBulk y.1 := by
  intro fuel
  induction fuel using Nat.strongRecOn with
  | ind fuel ih =>
    intro cs y h hw
    obtain ⟨xs, n, rfl, rfl, hlen, hxs, hget⟩ := DataW.trod_struct Tryd.underlying24 h
    rw [cells_datum] at hlen
    match cs, hlen with
    | [c0, c1, c2, c3, c4], _ =>
      have g0 : DataW.trod enc Tryd.prog w 0 (fun _ => true) true n 3 (([c0, c1, c2, c3, c4].drop 0).take (Tryd.prog.cellsOf 3)) = xs[0]? := hget 0 _ rfl
      have g1 : DataW.trod enc Tryd.prog w 0 (fun _ => true) true n 3 (([c0, c1, c2, c3, c4].drop 1).take (Tryd.prog.cellsOf 3)) = xs[1]? := hget 1 _ rfl
      have g2 : DataW.trod enc Tryd.prog w 0 (fun _ => true) true n 3 (([c0, c1, c2, c3, c4].drop 2).take (Tryd.prog.cellsOf 3)) = xs[2]? := hget 2 _ rfl
      have g3 : DataW.trod enc Tryd.prog w 0 (fun _ => true) true n 9 (([c0, c1, c2, c3, c4].drop 3).take (Tryd.prog.cellsOf 9)) = xs[3]? := hget 3 _ rfl
      have g4 : DataW.trod enc Tryd.prog w 0 (fun _ => true) true n 22 (([c0, c1, c2, c3, c4].drop 4).take (Tryd.prog.cellsOf 22)) = xs[4]? := hget 4 _ rfl
      rw [cells_int] at g0 g1 g2
      rw [cells_string] at g3
      rw [cells_data] at g4
      have hx5 : xs.length = 5 := hxs
      match xs, hx5 with
      | [x0, x1, x2, x3, x4], _ =>
        obtain ⟨k, e0, _, w0⟩ := DataW.trod_int Tryd.underlying3 (show _ = some x0 from g0)
        obtain ⟨m, e1, _, w1⟩ := DataW.trod_int Tryd.underlying3 (show _ = some x1 from g1)
        obtain ⟨d, e2, _, w2⟩ := DataW.trod_int Tryd.underlying3 (show _ = some x2 from g2)
        obtain ⟨s, e3, hx3, _⟩ := DataW.trod_string Tryd.underlying9 (show _ = some x3 from g3)
        have f0 : c0 = .int .i64 k := by simpa using e0
        have f1 : c1 = .int .i64 m := by simpa using e1
        have f2 : c2 = .int .i64 d := by simpa using e2
        have f3 : c3 = .string s := by simpa using e3
        subst f0 f1 f2 f3 hx3
        have we : ∀ (i : Nat) (t : TypeId) (z : DataW H), [3, 3, 3, 9, 22][i]? = some t → [x0.1, x1.1, x2.1, DataW.lit (Lit.string s.data.toList), x4.1][i]? = some z → ∀ n ∈ z.weights Tryd.prog t, n ≤ reachBytes := by
          intro i t z ht hz q hq
          refine hw q ?_
          show q ∈ DataW.weights Tryd.prog 24 (.agg _)
          simp only [DataW.weights, Tryd.underlying24]
          exact weightsEach_mem i ht hz q hq
        have hs : s.size ≤ 140737488351232 := we 3 9 _ rfl rfl s.data.toList.length (by simp [DataW.weights])
        have w4 := we 4 22 _ rfl rfl
        rcases DataW.trod_slice Tryd.underlying22 (show _ = some x4 from g4) with ⟨e4, _⟩ | ⟨a, len, cap, elems, rest, n', rfl, e4, hx4, _, hle, _, hel, hget4, hsp, _⟩
        · have f4 : c4 = .slice none 0 0 := by simpa using e4
          subst f4
          exact ⟨.mk k m d s [], RepD.shut (bounds_i64 w0) (bounds_i64 w1) (bounds_i64 w2) hs ⟨none, 0, 0, rfl, rfl, by omega, by omega, rfl, rfl⟩, bulk_le (Nat.zero_le _)⟩
        · have f4 : c4 = .slice (some a) len cap := by simpa using e4
          subst f4 hx4
          have hrest := (hsp rfl).1
          have hcap : cap ≤ 9223372036854775807 := by
            have := w4 ((elems.length + rest.length) * 64) (by simp [DataW.weights, Tryd.underlying22, bytes_datum])
            have h9 : (elems.length + rest.length) * 64 ≤ 140737488351232 := this
            omega
          by_cases h0 : len = 0
          · subst h0
            exact ⟨.mk k m d s [], RepD.shut (bounds_i64 w0) (bounds_i64 w1) (bounds_i64 w2) hs ⟨some a, 0, cap, rfl, rfl, by omega, hcap, fun h => absurd rfl h, by rw [RepC]; trivial⟩, bulk_le (Nat.zero_le _)⟩
          have hat : ∀ i (hi : i < len), ∃ cs', w.cells? 0 (a.add (i * 5)) 5 = some cs' ∧ DataW.trod enc Tryd.prog w 0 (fun _ => true) true n' 24 cs' = some (elems[i]'(by omega)) := by
            intro i hi
            have hb := hget4 i hi
            rw [cells_datum, List.getElem?_eq_getElem (by omega)] at hb
            exact Option.bind_eq_some_iff.1 hb
          obtain ⟨hspot, hblk⟩ : a.spot = none ∧ a.block < w.heap.size := by
            obtain ⟨cs', hc1, _⟩ := hat 0 (by omega)
            obtain ⟨_, hl5, hcs⟩ := World.cells?_some hc1
            have h00 := hcs 0 (by omega)
            rw [List.getElem?_eq_getElem (by omega)] at h00
            have := cell_spot h00
            simpa [Addr.add] using this
          have hcell : ∀ i (hi : i < (elems.map Prod.fst).length), ∃ x c0 c1 c2 c3 c4, w.cell? ⟨a.block, a.off + i * 5, none⟩ = some c0 ∧ w.cell? ⟨a.block, a.off + i * 5 + 1, none⟩ = some c1 ∧ w.cell? ⟨a.block, a.off + i * 5 + 2, none⟩ = some c2 ∧ w.cell? ⟨a.block, a.off + i * 5 + 3, none⟩ = some c3 ∧ w.cell? ⟨a.block, a.off + i * 5 + 4, none⟩ = some c4 ∧ RepD w w.heap.size x (.agg #[c0, c1, c2, c3, c4]) ∧ Dat.bulk x ≤ Rows.uptoBulk (elems.map Prod.fst)[i] := by
            intro i hi'
            have hi : i < len := by simpa [hel] using hi'
            obtain ⟨cs', hc1, hc2⟩ := hat i hi
            obtain ⟨_, hl5, hcs⟩ := World.cells?_some hc1
            rw [add_none hspot] at hcs
            have hcs2 : ∀ j, j < 5 → w.cell? ⟨a.block, a.off + i * 5 + j, none⟩ = cs'[j]? := by
              intro j hj
              have := hcs j hj
              rw [add_none rfl] at this
              exact this
            match cs', hl5 with
            | [a0, a1, a2, a3, a4], _ =>
              obtain ⟨x, hx, hxb⟩ := ih n' (by omega) _ _ hc2 (fun q hq => w4 q (by
                simp only [DataW.weights, Tryd.underlying22, List.mem_cons, List.mem_append]
                refine Or.inr (Or.inl (weightsAll_mem (d := (elems[i]'(by omega)).1) ?_ q hq))
                exact List.mem_map_of_mem (List.getElem_mem _)))
              exact ⟨x, a0, a1, a2, a3, a4, hcs2 0 (by omega), hcs2 1 (by omega), hcs2 2 (by omega), hcs2 3 (by omega), hcs2 4 (by omega), hx, by simpa using hxb⟩
          obtain ⟨l, hl, hr, hlb⟩ := repC_buildB (elems.map Prod.fst) a.off hcell
          exact ⟨.mk k m d s l, RepD.shut (bounds_i64 w0) (bounds_i64 w1) (bounds_i64 w2) hs ⟨some a, len, cap, rfl, by rw [hl]; simp [hel], hle, hcap, fun _ => ⟨hspot, hblk⟩, hr⟩, bulk_le (Nat.le_trans hlb (by show Rows.uptoBulkAll (elems.map fun x => x.1) ≤ _; simp only [Rows.uptoBulk]; omega))⟩

set_option maxRecDepth 100000 in
theorem open_datumB {W : World} {r : Reach} {b0 : Nat} {v : Value} {d : DataW H} {ps : List MemPlace} (hval : Value.okWide Tryd.prog W r b0 24 v) (hd : DataW.Trod enc Tryd.prog W 0 (fun _ => true) true 24 v d ps) (hw : ∀ n ∈ d.weights Tryd.prog 24, n ≤ reachBytes) : ∃ x, RepD W W.heap.size x v ∧ Dat.bulk x ≤ Rows.uptoBulk d := by
  unfold Value.okWide at hval
  rw [Tryd.underlying24] at hval
  obtain ⟨⟨l⟩, rfl, _⟩ := hval
  obtain ⟨fuel, hf⟩ := hd
  obtain ⟨x, hx⟩ := rep_of_trodB fuel l (d, ps) (by simpa [Value.cells] using hf) hw
  exact ⟨x, hx⟩
end

theorem bulk_bound {H : Type} {l : List (DataW H)} (hk : Rows.uptoSmall H l = true) : Rows.uptoBulkAll l ≤ 1048576 := of_decide_eq_true hk
end Go.Proofs.YtlpkpkcfgchngaaDoor
