/-
  The contract of datum.List.
-/
import Derived.Test.YtnpiekniignfcaaGreatDoorListUp
import Derived.Test.YtnpiekniignfcaaGreatDoorBoxes
import Derived.Laws.AppendOwn
import Derived.Laws.OwnMore
namespace Go.Proofs.YtnpiekniignfcaaGreatDoor
open Go.RowKit Go.Shelf

attribute [local go_sem] Oper.semAt_some

set_option maxRecDepth 100000 in
set_option maxHeartbeats 4000000 in
theorem list_in (F : Fence) (n : Nat) (hF0 : F.fn 25) (hF1 : F.fn 42) (hF2 : F.fn 66) (hro : F.round = none) (hn : 6 ≤ n)
    (l : List Dat) (sl : Value) (w : World) (hv : RepS w w.heap.size l sl) :
    CallsIn F n Tryz.prog 25 #[sl] w (DatPost (Dat.list l) w) := by
  have h1 : 1 ≤ n := by omega
  obtain ⟨o, len, cap, rfl, hl, hcap, hmax, hv⟩ := hv
  have HL := Lib.hid hl
  have HV := Lib.hid hv
  clear hl hv
  refine callsIn_of_wp_marks Tryz.func25 rfl hF0 ?_ hro
  simp only [Tryz.ntmps25, List.size_toArray, List.length_cons, List.length_nil, Nat.reduceAdd, Nat.reduceSub, Array.replicate_succ, Array.replicate_zero, List.push_toArray, List.append_toArray, List.nil_append, List.cons_append]
  gi_wp2_with (gi_at_call 42; refine (back_in F (n - 1) hF1 hro _ _ _ _).mono ?_; rintro e w' ⟨rfl, rfl⟩)
  obtain ⟨W0, hW0⟩ : ∃ W0, ((w.alloc (.cells #[.int .i64 0, .int .i64 0, .int .i64 0, .string ⟨#[]⟩, .slice none 0 0] 26)).alloc (.cells #[.int .i64 4, .int .i64 0, .int .i64 0, .string ⟨#[]⟩, .slice none 0 0] 26)).alloc (.cells #[.slice o len cap] 22) = W0 := ⟨_, rfl⟩
  have hB0 : Below w.heap.size w W0 := by rw [← hW0]; exact (((Below.refl _ w).alloc (Nat.le_refl _) _).alloc (by simp) _).alloc (by simp; omega) _
  have hsz : W0.heap.size = w.heap.size + 3 := by rw [← hW0]; simp
  have bS : Boxed W0 (w.heap.size + 1 + 1) 22 (.slice o len cap) := by
    rw [← hW0]
    have := Boxed.new ((w.alloc (.cells #[.int .i64 0, .int .i64 0, .int .i64 0, .string ⟨#[]⟩, .slice none 0 0] 26)).alloc (.cells #[.int .i64 4, .int .i64 0, .int .i64 0, .string ⟨#[]⟩, .slice none 0 0] 26)) 22 (.slice o len cap)
    simp only [World.size_alloc] at this
    exact this
  have b0 : Box5 W0 w.heap.size 26 (.int .i64 0) (.int .i64 0) (.int .i64 0) (.string ⟨#[]⟩) (.slice none 0 0) := by
    rw [← hW0]; exact ((Box5.new w _ _ _ _ _ _).alloc _).alloc _
  have b1 : Box5 W0 (w.heap.size + 1) 26 (.int .i64 4) (.int .i64 0) (.int .i64 0) (.string ⟨#[]⟩) (.slice none 0 0) := by
    rw [← hW0]
    have := (Box5.new (w.alloc (.cells #[.int .i64 0, .int .i64 0, .int .i64 0, .string ⟨#[]⟩, .slice none 0 0] 26)) 26 (.int .i64 4) (.int .i64 0) (.int .i64 0) (.string ⟨#[]⟩) (.slice none 0 0)).alloc (.cells #[.slice o len cap] 22)
    simp only [World.size_alloc] at this
    exact this
  rw [hW0]
  clear hW0
  have hI0 : ListI w.heap.size w ([] : List (Item w w.heap.size)) W0 :=
    ⟨⟨⟨_, _, _, _, _, _, _, b1, RepD.shut (by omega) (by omega) (by omega) (by decide) ⟨none, 0, 0, rfl, rfl, by omega, by omega, rfl, rfl⟩⟩, b0⟩, hB0, by omega⟩
  refine wpIn_rangeFunc_ownH (α := Item w w.heap.size) (encs := fun x => #[.int .i64 x.1.1, x.1.2.2]) (Kp := fun W W' => Below w.heap.size W W' ∧ W'.heap[w.heap.size + 1 + 1]? = W.heap[w.heap.size + 1 + 1]?) (S := fun ys => ys.map Item.dat = l.reverse) (Sp := fun _ => True) (N := len) (w0 := W0) hro h1 (gf := 66) (lb := #[.pointer (some ⟨w.heap.size + 1 + 1, 0, none⟩)]) rfl hF2 (enters_of Tryz.func66 (by kernel_rfl) rfl)
    ?seq (fun h k => ⟨h.1.trans k.1, k.2.trans h.2⟩) ?kb (Below.refl _ _) (fun _ => rfl)
    (fun pre W => ListI w.heap.size w pre W) (fun _ _ _ => False) (listI_own _ _ _ _ _ (Nat.le_refl _) (by omega)) (fun _ _ _ _ _ hs _ _ => hs) hI0
    (fun x a' W => ∃ Bx c0 c1 c2 c3 c4, w.heap.size + 2 < Bx ∧ x.1.2.2 = .agg #[c0, c1, c2, c3, c4] ∧ Box5 W Bx 26 c0 c1 c2 c3 c4 ∧ a' = { tmps := #[.slice o len cap, undef, .pointer (some ⟨w.heap.size, 0, none⟩), .pointer (some ⟨w.heap.size + 1, 0, none⟩), undef, .pointer (some ⟨Bx, 0, none⟩), .agg #[.int .i64 4, .int .i64 0, .int .i64 0, .string ⟨#[]⟩, .slice none 0 0], .slice o len cap, .func (.func 66) #[] #[.pointer (some ⟨w.heap.size + 1 + 1, 0, none⟩)], .int .i64 x.1.1, .agg #[c0, c1, c2, c3, c4], undef, undef, undef, undef, undef], defers := [] })
    ?ax ?assign ?body ?done ?stop
  case seq =>
    rintro ll J Jx W hW _ _ hY h0
    exact back1_in F (n - 1) hF2 hro (by omega) ll (w.heap.size + 1 + 1) w.heap.size w.heap.size w l o len cap HL.out hcap hmax HV.out (Nat.le_refl _) J Jx hY W (hB0.trans (hW.mono (by omega))) ((hW.block _ (by omega)).trans bS) h0
  case kb =>
    intro W k ob ob' hle hk hc hw
    exact ⟨belowK_b (w := w) (Nat.le_refl _) W k ob ob' (by omega) hk hc hw, World.putObj_heap_other (by omega)⟩
  case ax =>
    rintro x a' _ X Y row ⟨Bx, c0, c1, c2, c3, c4, h1, h2, h3, h4⟩ hg hr
    exact ⟨Bx, c0, c1, c2, c3, c4, h1, h2, box5_own Bx 26 (fun _ : Unit => c0) (fun _ => c1) (fun _ => c2) (fun _ => c3) (fun _ => c4) () X Y row h3 hg (fun r e => (hr r e).2), h4⟩
  case assign =>
    rintro ll pre ⟨⟨i, x, v⟩, hx⟩ W K hI hK
    obtain ⟨k, n', d, s, o', len', cap', rfl⟩ := agg_of hx
    gi_wp2
    have hS := hI.2.2
    exact hK _ _ ((KeepsOthers.alloc _ _).from _) ⟨(Below.refl _ W).alloc hI.2.1.size _, Below.heap_alloc _ _ _ (by omega)⟩ ((listI_own w.heap.size w w w.heap.size W0.heap.size (Nat.le_refl _) (by omega)).alloc _ hI) ⟨W.heap.size, _, _, _, _, _, by omega, rfl, Box5.new W _ _ _ _ _ _, rfl⟩
  case body =>
    rintro ll pre ⟨⟨i, x, v⟩, hx⟩ a' W hl ⟨r, hr⟩ hI ⟨Bx, c0, c1, c2, c3, c4, hBx, rfl, bX, rfl⟩ hlt
    obtain ⟨⟨⟨ok, on, od, os, oo, ol, oc, b1, hrep⟩, b0⟩, hB, hS⟩ := hI
    obtain ⟨x0, x1, x2, x3, x4⟩ := bX.cells
    obtain ⟨q0, q1, q2, q3, q4⟩ := b1.cells
    obtain ⟨z0, z1, z2, z3, z4⟩ := b1.free
    have g1 := bX.lt
    have g2 := b1.lt
    gi_wp2
    refine ⟨((set5_keeps _ _ _ _ _ _ _).trans (KeepsOthers.alloc _ _)).from _, ⟨(set5_below _ _ _ _ _ _ _ _ (by omega)).alloc (by rw [set5_size]; omega) _, ?_⟩, ⟨⟨⟨_, _, _, _, _, _, _, (b1.set _ _ _ _ _).alloc _, ?_⟩, ?_⟩, ?_, ?_⟩⟩
    · rw [Below.heap_alloc _ _ _ (by rw [set5_size]; omega), set5_heap _ _ _ _ _ _ _ (by omega)]
    · rw [listUp_snoc]
      exact pair_made (by omega) (by omega) (((RepD.kept hx hB).dig (Nat.le_refl _)).wider (by omega)) hrep _
    · exact (show Box5 (set5 W (w.heap.size + 1) _ _ _ _ _) w.heap.size _ _ _ _ _ _ from (set5_heap _ _ _ _ _ _ _ (by omega)).trans b0).alloc _
    · exact (hB.trans (set5_below _ _ _ _ _ _ _ _ (by omega))).alloc (by rw [set5_size]; omega) _
    · simp; omega
  case done =>
    rintro D ys W hD hys ⟨⟨⟨ok, on, od, os, oo, ol, oc, b1, hrep⟩, b0⟩, hB, hS⟩ hK
    obtain ⟨q0, q1, q2, q3, q4⟩ := b1.cells
    obtain ⟨p0, p1, p2, p3, p4⟩ := b0.cells
    obtain ⟨z0, z1, z2, z3, z4⟩ := b0.free
    gi_wp2
    have hD0 : D ≠ w.heap.size := by omega
    have bN := b0.set (.int .i64 ok) (.int .i64 on) (.int .i64 od) (.string os) (.slice oo ol oc)
    have hK' := (set5_heap W w.heap.size (.int .i64 ok) (.int .i64 on) (.int .i64 od) (.string os) (.slice oo ol oc) hD0).trans hK
    refine ⟨by simp, .inl ⟨_, _, rfl, run_takeDeferred hK', ?_⟩⟩
    have bP := (show Box5 ((set5 W w.heap.size (.int .i64 ok) (.int .i64 on) (.int .i64 od) (.string os) (.slice oo ol oc)).putObj D (.deferred none)) w.heap.size _ _ _ _ _ _ from (World.putObj_heap_other (Ne.symm hD0)).trans bN)
    obtain ⟨r0, r1, r2, r3, r4⟩ := bP.cells
    refine ⟨.agg #[.int .i64 ok, .int .i64 on, .int .i64 od, .string os, .slice oo ol oc], by simp [results, Tryz.f25, go_sem, r0, r1, r2, r3, r4], _, rfl, ?_, ?_⟩
    · rw [← listUp_all hys]
      refine (hrep.closed ?_).wider (by simp)
      intro c o u hc h
      have h2 : c ≠ D := by
        rintro rfl
        unfold World.cell? at h
        rw [hK] at h
        cases h
      have h3 : (set5 W w.heap.size (.int .i64 ok) (.int .i64 on) (.int .i64 od) (.string os) (.slice oo ol oc)).cell? ⟨c, o, none⟩ = some u := by rw [set5_other _ _ _ _ _ _ _ (by omega)]; exact h
      unfold World.cell? at h3 ⊢
      rw [show ((set5 W w.heap.size (.int .i64 ok) (.int .i64 on) (.int .i64 od) (.string os) (.slice oo ol oc)).putObj D (.deferred none)).heap[c]? = _ from World.putObj_heap_other h2]
      exact h3
    · exact (hB.trans (set5_below W w.heap.size w.heap.size _ _ _ _ _ (Nat.le_refl _))).trans (belowK_b (w := w) (Nat.le_refl _) _ D _ _ (by omega) hK' rfl rfl)
  case stop =>
    rintro D c pre W _ _ h _
    exact h.elim

/-- datum.List. -/
theorem list_any (l : List Dat) (sl : Value) (B : Nat) (w : World) (hv : RepS w B l sl) (hB : B ≤ w.heap.size) :
    Calls Tryz.prog 25 #[sl] w (DatPost (Dat.list l) w) :=
  (callsIn_wide (n := 6)).1 (list_in Fence.wide 6 trivial trivial trivial rfl (Nat.le_refl _) l sl w (hv.wider hB))
end Go.Proofs.YtnpiekniignfcaaGreatDoor

namespace Go.Proofs.YtnpiekniignfcaaGreatDoor
open Go.RowKit

theorem info_datum : (Tryz.prog.info? 26).map (fun i => (i.zero, i.size, i.bytes)) = some (some (.agg #[.int .i64 0, .int .i64 0, .int .i64 0, .string ⟨#[]⟩, .slice none 0 0]), 5, 64) := by kernel_rfl

/-- The cells read as the data, five cells each. -/
def CellsD (w : World) (B : Nat) : List Dat → List Value → Prop
  | [], xs => xs = []
  | x :: l, xs => ∃ c0 c1 c2 c3 c4 r, xs = c0 :: c1 :: c2 :: c3 :: c4 :: r ∧ RepD w B x (.agg #[c0, c1, c2, c3, c4]) ∧ CellsD w B l r

theorem CellsD.length {w : World} {B : Nat} : ∀ {l : List Dat} {xs : List Value}, CellsD w B l xs → xs.length = l.length * 5
  | [], _, h => by rw [CellsD] at h; rw [h]; rfl
  | _ :: l, _, ⟨_, _, _, _, _, r, he, _, hr⟩ => by rw [he]; simp only [List.length_cons, hr.length]; omega
theorem CellsD.mono {w w' : World} {B B' : Nat} (hk : ∀ x v, RepD w B x v → RepD w' B' x v) : ∀ {l : List Dat} {xs : List Value}, CellsD w B l xs → CellsD w' B' l xs
  | [], _, h => h
  | _ :: _, _, ⟨c0, c1, c2, c3, c4, r, he, hx, hr⟩ => ⟨c0, c1, c2, c3, c4, r, he, hk _ _ hx, hr.mono hk⟩
theorem CellsD.snoc {w : World} {B : Nat} {x : Dat} {c0 c1 c2 c3 c4 : Value} (hx : RepD w B x (.agg #[c0, c1, c2, c3, c4])) : ∀ {l : List Dat} {xs : List Value}, CellsD w B l xs → CellsD w B (l ++ [x]) (xs ++ [c0, c1, c2, c3, c4])
  | [], _, h => by rw [CellsD] at h; rw [h]; exact ⟨c0, c1, c2, c3, c4, [], rfl, hx, rfl⟩
  | _ :: _, _, ⟨a0, a1, a2, a3, a4, r, he, hy, hr⟩ => ⟨a0, a1, a2, a3, a4, r ++ [c0, c1, c2, c3, c4], by rw [he]; rfl, hy, hr.snoc hx⟩

theorem CellsD.repC {w : World} {B b : Nat} : ∀ {l : List Dat} {xs : List Value} {off : Nat}, CellsD w B l xs → (∀ j u, xs[j]? = some u → w.cell? ⟨b, off + j, none⟩ = some u) → RepC w B l b off
  | [], _, _, _, _ => by rw [RepC]; trivial
  | x :: l, _, off, ⟨c0, c1, c2, c3, c4, r, he, hx, hr⟩, hc => by
    subst he
    rw [RepC]
    refine ⟨⟨c0, c1, c2, c3, c4, hc 0 _ rfl, hc 1 _ rfl, hc 2 _ rfl, hc 3 _ rfl, hc 4 _ rfl, hx⟩, hr.repC fun j u hj => ?_⟩
    have := hc (j + 5) u (by simpa using hj)
    rw [show off + 5 + j = off + (j + 5) by omega]; exact this

/-- A row of the call's own reads as a slice of the data. -/
theorem repS_of_row {w : World} {base B : Nat} {v : Value} {l : List Dat} {xs : List Value} (hown : w.ownsRow base 26 5 v l.length xs) (hc : CellsD w B l xs) (hB : B ≤ w.heap.size) : RepS w w.heap.size l v := by
  rcases hown.2 with ⟨hv, h0⟩ | ⟨g, cap, cur, hv, hb, hg, hle, hm, hsz, htk⟩
  · have : l = [] := List.eq_nil_of_length_eq_zero h0
    subst this
    exact ⟨none, 0, 0, hv, rfl, by omega, by omega, rfl, rfl⟩
  · have hlt := (Array.getElem?_eq_some_iff.1 hg).1
    refine ⟨some ⟨g, 0, none⟩, l.length, cap, hv, rfl, hle, by unfold maxLen at hm; omega, fun _ => ⟨rfl, hlt⟩, ?_⟩
    refine (hc.mono (fun x v h => h.wider hB)).repC fun j u hj => ?_
    rw [← htk] at hj
    rw [List.getElem?_take] at hj
    split at hj
    · unfold World.cell?
      rw [hg, Nat.zero_add]
      simpa using hj
    · cases hj

/-- The five cells of a new block. -/
theorem new_five (w : World) (a0 a1 a2 a3 a4 : Value) (t : TypeId) : ∀ (j : Nat) (u : Value), [a0, a1, a2, a3, a4][j]? = some u → (w.alloc (.cells #[a0, a1, a2, a3, a4] t)).cell? ((⟨w.heap.size, 0, none⟩ : Addr).add j) = some u := by
  intro j u hj
  have e : (⟨w.heap.size, 0, none⟩ : Addr).add j = ⟨w.heap.size, j, none⟩ := by unfold Addr.add; split <;> simp_all
  rw [e]
  exact box_cell w _ t j (by simpa using hj)

/-- The cells of data that came in. -/
theorem repC_cells {w : World} {B b : Nat} : ∀ {l : List Dat} {off : Nat}, RepC w B l b off → ∃ xs, CellsD w B l xs ∧ ∀ j u, xs[j]? = some u → w.cell? ⟨b, off + j, none⟩ = some u
  | [], _, _ => ⟨[], rfl, fun j u h => by simp at h⟩
  | x :: l, off, h => by
    rw [RepC] at h
    obtain ⟨⟨c0, c1, c2, c3, c4, h0, h1, h2, h3, h4, hx⟩, hr⟩ := h
    obtain ⟨xs, hc, hcell⟩ := repC_cells hr
    refine ⟨c0 :: c1 :: c2 :: c3 :: c4 :: xs, ⟨c0, c1, c2, c3, c4, xs, rfl, hx, hc⟩, fun j u hj => ?_⟩
    match j, hj with
    | 0, hj => simp at hj; rw [← hj]; exact h0
    | 1, hj => simp at hj; rw [← hj]; exact h1
    | 2, hj => simp at hj; rw [← hj]; exact h2
    | 3, hj => simp at hj; rw [← hj]; exact h3
    | 4, hj => simp at hj; rw [← hj]; exact h4
    | j + 5, hj =>
      have := hcell j u (by simpa using hj)
      rw [show off + (j + 5) = off + 5 + j by omega]; exact this

/-- Five cells overwritten: one datum is another. -/
theorem CellsD.set {w : World} {B : Nat} {y : Dat} {d0 d1 d2 d3 d4 : Value} (hy : RepD w B y (.agg #[d0, d1, d2, d3, d4])) : ∀ {l : List Dat} {xs : List Value} {i : Nat}, i < l.length → CellsD w B l xs →
    CellsD w B (l.set i y) (((((xs.set (i * 5) d0).set (i * 5 + 1) d1).set (i * 5 + 2) d2).set (i * 5 + 3) d3).set (i * 5 + 4) d4)
  | [], _, _, hi, _ => by simp at hi
  | _ :: l, _, 0, _, ⟨c0, c1, c2, c3, c4, r, he, _, hr⟩ => ⟨d0, d1, d2, d3, d4, r, by rw [he]; rfl, hy, hr⟩
  | _ :: l, _, i + 1, hi, ⟨c0, c1, c2, c3, c4, r, he, hx, hr⟩ => by
    refine ⟨c0, c1, c2, c3, c4, _, ?_, hx, CellsD.set hy (i := i) (by simpa using hi) hr⟩
    rw [he, show (i + 1) * 5 = i * 5 + 5 by omega]
    rfl
theorem CellsD.oneCell {w : World} {B : Nat} : ∀ {l : List Dat} {xs : List Value}, CellsD w B l xs → ∀ u ∈ xs, u.oneCell' = true
  | [], _, h, u, hu => by rw [CellsD] at h; rw [h] at hu; cases hu
  | x :: l, _, ⟨c0, c1, c2, c3, c4, r, he, hx, hr⟩, u, hu => by
    obtain ⟨k, n, d, s, o, len, cap, hv⟩ := agg_of hx
    simp only [Value.agg.injEq, Array.mk.injEq, List.cons.injEq, and_true] at hv
    obtain ⟨rfl, rfl, rfl, rfl, rfl⟩ := hv
    subst he
    simp only [List.mem_cons] at hu
    rcases hu with rfl | rfl | rfl | rfl | rfl | hu
    · rfl
    · rfl
    · rfl
    · rfl
    · rfl
    · exact hr.oneCell u hu

/-- Five stores into a row. -/
abbrev put5 (W : World) (g o : Nat) (d0 d1 d2 d3 d4 : Value) : World := ((((W.setCell ⟨g, o, none⟩ d0).setCell ⟨g, o + 1, none⟩ d1).setCell ⟨g, o + 2, none⟩ d2).setCell ⟨g, o + 3, none⟩ d3).setCell ⟨g, o + 4, none⟩ d4
theorem put5_heap (W : World) (g o : Nat) (d0 d1 d2 d3 d4 : Value) {c : Nat} (h : c ≠ g) : (put5 W g o d0 d1 d2 d3 d4).heap[c]? = W.heap[c]? := by
  unfold put5
  rw [setCell_heap_other _ _ _ h, setCell_heap_other _ _ _ h, setCell_heap_other _ _ _ h, setCell_heap_other _ _ _ h, setCell_heap_other _ _ _ h]
theorem put5_size (W : World) (g o : Nat) (d0 d1 d2 d3 d4 : Value) : (put5 W g o d0 d1 d2 d3 d4).heap.size = W.heap.size := by simp [put5]
theorem put5_below (W : World) (g o H : Nat) (d0 d1 d2 d3 d4 : Value) (h : H ≤ g) : Below H W (put5 W g o d0 d1 d2 d3 d4) :=
  (((((Below.refl H W).setCell (p := ⟨g, o, none⟩) h _).setCell (p := ⟨g, o + 1, none⟩) h _).setCell (p := ⟨g, o + 2, none⟩) h _).setCell (p := ⟨g, o + 3, none⟩) h _).setCell (p := ⟨g, o + 4, none⟩) h _
theorem put5_row {W : World} {base g n cap o : Nat} {e : TypeId} {size : Nat} {xs : List Value} (h : W.ownsRow base e size (.slice (some ⟨g, 0, none⟩) n cap) n xs) (d0 d1 d2 d3 d4 : Value) :
    (put5 W g o d0 d1 d2 d3 d4).ownsRow base e size (.slice (some ⟨g, 0, none⟩) n cap) n (((((xs.set o d0).set (o + 1) d1).set (o + 2) d2).set (o + 3) d3).set (o + 4) d4) :=
  ((((h.stored o d0).1.stored (o + 1) d1).1.stored (o + 2) d2).1.stored (o + 3) d3).1.stored (o + 4) d4 |>.1
theorem Box5.put4 {W : World} {B : Nat} {t : TypeId} {c0 c1 c2 c3 c4 : Value} (h : Box5 W B t c0 c1 c2 c3 c4) (d4 : Value) : Box5 (W.setCell ⟨B, 4, none⟩ d4) B t c0 c1 c2 c3 d4 := by
  simp only [Box5, World.setCell, Array.getElem?_modify, ↓reduceIte]
  rw [show W.heap[B]? = _ from h]
  rfl
end Go.Proofs.YtnpiekniignfcaaGreatDoor
