/-
  The contracts of corbelref02.few, Few.
-/
import Derived.Test.YtlpkpkcfgchngaaDoorRep
import Derived.Test.YtlpkpkcfgchngaaDoorEnv
namespace Go.Proofs.YtlpkpkcfgchngaaDoor
open Go.RowKit

theorem few_ge : ∀ x : Dat, ∀ left : Int, 0 ≤ left → -1 ≤ Dat.few x left := by
  have hL : ∀ l : List Dat, (∀ x ∈ l, ∀ left : Int, 0 ≤ left → -1 ≤ Dat.few x left) → ∀ left : Int, -1 ≤ left → -1 ≤ Dat.fewL l left := by
    intro l
    induction l with
    | nil => intro _ left h; simpa [Dat.fewL] using h
    | cons x l ih =>
      intro hx left h
      rw [Dat.fewL]
      split
      · exact ih (fun y hy => hx y (by simp [hy])) _ (hx x (by simp) _ (by omega))
      · exact h
  intro x
  induction x using Dat.ind with
  | h k n d s l ih =>
    intro left h
    rw [Dat.few]
    exact hL l ih _ (by omega)

theorem fewL_step {l : List Dat} {i : Nat} {x : Dat} {cur : Int} (h : l[i]? = some x) (hc : 0 ≤ cur) : Dat.fewL (l.drop i) cur = Dat.fewL (l.drop (i + 1)) (Dat.few x cur) := by
  have e : l.drop i = x :: l.drop (i + 1) := by
    obtain ⟨hi, he⟩ := List.getElem?_eq_some_iff.1 h
    rw [← he]; exact List.drop_eq_getElem_cons hi
  rw [e, Dat.fewL, if_pos hc]

theorem fewL_neg (l : List Dat) {cur : Int} (hc : ¬ 0 ≤ cur) : Dat.fewL l cur = cur := by
  cases l with
  | nil => rfl
  | cons x l => rw [Dat.fewL, if_neg hc]

/-- A cell of a block that was just made. -/
theorem box_cell (w : World) (cs : Array Value) (t : TypeId) (i : Nat) {v : Value} (h : cs[i]? = some v) : (w.alloc (.cells cs t)).cell? ⟨w.heap.size, i, none⟩ = some v := by
  have hn : (w.alloc (.cells cs t)).heap[w.heap.size]? = some (.cells cs t) := (MapKept.heap_alloc w _).1
  show (match (w.alloc (.cells cs t)).heap[w.heap.size]? with | some (.cells c _ _) => _ | _ => _) = _
  rw [hn]
  simpa using h

/-- A part of a datum, in a world that left it as it was. -/
theorem part_at {w wr : World} {B : Nat} {l : List Dat} {o : Option Addr} {cap j : Nat} {x : Dat} (h : match o with | none => l = [] ∧ cap = 0 | some a => (l ≠ [] → a.spot = none ∧ a.block < B) ∧ RepC w B l a.block a.off)
    (hb : Below B w wr) (hx : l[j]? = some x) :
    ∃ b off, o = some ⟨b, off, none⟩ ∧ ∃ c0 c1 c2 c3 c4, wr.cell? ⟨b, off + j * 5, none⟩ = some c0 ∧ wr.cell? ⟨b, off + j * 5 + 1, none⟩ = some c1 ∧ wr.cell? ⟨b, off + j * 5 + 2, none⟩ = some c2 ∧ wr.cell? ⟨b, off + j * 5 + 3, none⟩ = some c3 ∧ wr.cell? ⟨b, off + j * 5 + 4, none⟩ = some c4 ∧ RepD wr B x (.agg #[c0, c1, c2, c3, c4]) := by
  cases o with
  | none => rw [h.1] at hx; simp at hx
  | some a =>
    have hl : l ≠ [] := by rintro rfl; simp at hx
    obtain ⟨b, off, sp⟩ := a
    obtain ⟨hs, hlt⟩ := h.1 hl
    simp only at hs hlt
    subst hs
    exact ⟨b, off, rfl, (h.2.kept hlt hb).at j x hx⟩

/-- .. its five cells by name. -/
theorem part_at2 {w wr : World} {B : Nat} {l : List Dat} {o : Option Addr} {cap j : Nat} {x : Dat} (h : match o with | none => l = [] ∧ cap = 0 | some a => (l ≠ [] → a.spot = none ∧ a.block < B) ∧ RepC w B l a.block a.off)
    (hb : Below B w wr) (hx : l[j]? = some x) :
    ∃ b off k n d s l' o' len' cap', o = some ⟨b, off, none⟩ ∧ x = .mk k n d s l' ∧ wr.cell? ⟨b, off + j * 5, none⟩ = some (.int .i64 k) ∧ wr.cell? ⟨b, off + j * 5 + 1, none⟩ = some (.int .i64 n) ∧ wr.cell? ⟨b, off + j * 5 + 2, none⟩ = some (.int .i64 d) ∧
      wr.cell? ⟨b, off + j * 5 + 3, none⟩ = some (.string s) ∧ wr.cell? ⟨b, off + j * 5 + 4, none⟩ = some (.slice o' len' cap') ∧ RepD wr B (.mk k n d s l') (.agg #[.int .i64 k, .int .i64 n, .int .i64 d, .string s, .slice o' len' cap']) := by
  obtain ⟨b, off, ho, c0, c1, c2, c3, c4, e0, e1, e2, e3, e4, er⟩ := part_at h hb hx
  obtain ⟨k, n, d, s, l'⟩ := x
  obtain ⟨sl, hv, _, _, _, _, o', len', cap', hsl, _⟩ := er.open
  subst hsl
  simp only [Value.agg.injEq, Array.mk.injEq, List.cons.injEq, and_true] at hv
  obtain ⟨rfl, rfl, rfl, rfl, rfl⟩ := hv
  exact ⟨b, off, k, n, d, s, l', o', len', cap', ho, rfl, e0, e1, e2, e3, e4, er⟩

set_option maxHeartbeats 1000000 in
set_option maxRecDepth 100000 in
theorem rfew_any : ∀ (x : Dat) (v : Value) (left : Int) (B : Nat) (w : World), RepD w B x v → B ≤ w.heap.size → 0 ≤ left → left ≤ 100000 →
    Calls Tryd.prog 22 #[v, .int .i64 left] w fun e w' => e = .returned (.int .i64 (Dat.few x left)) ∧ Below w.heap.size w w' := by
  intro x
  induction x using Dat.ind with
  | h k n d s l ih =>
    intro v left B w hv hB h0 h1
    obtain ⟨sl, rfl, _, _, _, _, o, len, cap, rfl, hlen, hcap, hmax, hc⟩ := hv.open
    have IH := Lib.hid ih
    have HV := Lib.hid hc
    have HL := Lib.hid hlen
    clear ih hv hc hlen
    go_enter Tryd.func22, Tryd.ntmps22
    go_wp2
    have hBox : ∀ wr, Below (w.heap.size + 1) (w.alloc (.cells #[.int .i64 k, .int .i64 n, .int .i64 d, .string s, .slice o len cap] 24)) wr → wr.cell? ⟨w.heap.size, 4, none⟩ = some (.slice o len cap) := by
      intro wr hb
      rw [hb.cell (p := ⟨w.heap.size, 4, none⟩) (by simp)]
      exact box_cell _ _ _ _ (by simp)
    have HB := Lib.hid hBox
    clear hBox
    go_loopw [1, 5] (fun a i wr => ∃ (cur : Int) (j : Nat), a = .int .i64 cur ∧ i = .int .i64 j ∧ j ≤ len ∧ -1 ≤ cur ∧ cur ≤ 100000 ∧ Dat.fewL (l.drop j) cur = Dat.fewL l (left - 1) ∧ Below (w.heap.size + 1) (w.alloc (.cells #[.int .i64 k, .int .i64 n, .int .i64 d, .string s, .slice o len cap] 24)) wr) (fun _ i _ => len - (intOf i).toNat)
    case atStart => exact ⟨left - 1, 0, rfl, rfl, by omega, by omega, by omega, rfl, Below.refl _ _⟩
    case round =>
      obtain ⟨cur, j, rfl, rfl, hj, hc1, hc2, hf, hb⟩ := hrel
      have HF := Lib.hid hf
      clear hf
      have hcell := HB.out _ hb
      by_cases hjl : j < len
      · by_cases hcur : 0 ≤ cur
        · obtain ⟨x, hx⟩ : ∃ x, l[j]? = some x := ⟨_, List.getElem?_eq_getElem (by rw [← HL.out]; exact hjl)⟩
          have hbw : Below w.heap.size w wr := ((Below.refl _ _).alloc (Nat.le_refl _) _).trans (hb.mono (by omega))
          obtain ⟨b, off, ho, c0, c1, c2, c3, c4, e0, e1, e2, e3, e4, er⟩ := part_at HV.out (hbw.mono hB) hx
          subst ho
          have HX := Lib.hid hx
          have ER := Lib.hid er
          have HF2 := Lib.hid ((fewL_step hx hcur).symm.trans HF.out)
          have g1 := few_ge x cur hcur
          have g2 := Dat.few_le x cur
          have hsz := hbw.size
          obtain ⟨y, hy⟩ : ∃ y, Dat.few x cur = y := ⟨_, rfl⟩
          rw [hy] at g1 g2 HF2
          have HY := Lib.hid hy
          clear hx er hy
          go_wp2_with (first | (go_at_call 22; refine (IH.out x (List.mem_of_getElem? HX.out) _ _ B _ ER.out (by omega) (by omega) (by omega)).mono ?_; rw [HY.out]; rintro e' w1 ⟨rfl, hb1⟩))
          go_roundw
          case rel => exact ⟨y, j + 1, rfl, by go_num, by omega, by omega, by omega, HF2.out, hb.trans (hb1.mono (by have := hb.size; simp at this; omega))⟩
          case measure => simp [intOf]; omega
        · have HR := Lib.hid (show Dat.fewL l (left - 1) = cur by rw [← HF.out, fewL_neg _ hcur])
          go_wp2
          go_ret
          exact ⟨ret_int (by rw [Dat.few]; exact HR.out.symm), ((Below.refl _ _).alloc (Nat.le_refl _) _).trans (hb.mono (by omega))⟩
      · have HR := Lib.hid (show Dat.fewL l (left - 1) = cur by
          rw [← HF.out, List.drop_eq_nil_of_le (by rw [← HL.out]; omega)]; rfl)
        go_wp2
        go_ret
        exact ⟨ret_int (by rw [Dat.few]; exact HR.out.symm), ((Below.refl _ _).alloc (Nat.le_refl _) _).trans (hb.mono (by omega))⟩

set_option maxRecDepth 100000 in
theorem rFew_any (x : Dat) (v : Value) (left : Int) (B : Nat) (w : World) (hv : RepD w B x v) (hB : B ≤ w.heap.size) (h0 : 0 ≤ left) (h1 : left ≤ 100000) :
    Calls Tryd.prog 11 #[v, .int .i64 left] w fun e w' => e = .returned (.bool (decide (0 ≤ Dat.few x left))) ∧ Below w.heap.size w w' := by
  obtain ⟨k, n, d, s, l⟩ := x
  obtain ⟨sl, rfl, _⟩ := hv.open
  have HV := Lib.hid hv
  clear hv
  obtain ⟨y, hy⟩ : ∃ y, Dat.few (.mk k n d s l) left = y := ⟨_, rfl⟩
  rw [hy]
  have HY := Lib.hid hy
  clear hy
  go_enter Tryd.func11, Tryd.ntmps11
  go_wp2_with (first | (go_at_call 22; refine (rfew_any (.mk k n d s l) _ left B _ (HV.out.kept (((Below.refl _ _).alloc (Nat.le_refl _) _).mono hB)) (by simp; omega) h0 h1).mono ?_; rw [HY.out]; rintro e' w1 ⟨rfl, hb1⟩))
  go_ret
  exact ⟨rfl, ((Below.refl _ _).alloc (Nat.le_refl _) _).trans (hb1.mono (by simp))⟩

set_option maxRecDepth 100000 in
theorem lfew_any (x : Dat) (v : Value) (left : Int) (B : Nat) (w : World) (hv : RepD w B x v) (hB : B ≤ w.heap.size) (h0 : 0 ≤ left) (h1 : left ≤ 100000) :
    Calls Tryd.prog 8 #[v, .int .i64 left] w fun e w' => e = .returned (.bool (decide (0 ≤ Dat.few x left))) ∧ Below w.heap.size w w' := by
  obtain ⟨k, n, d, s, l⟩ := x
  obtain ⟨sl, rfl, _⟩ := hv.open
  have HV := Lib.hid hv
  clear hv
  obtain ⟨y, hy⟩ : ∃ y, decide (0 ≤ Dat.few (.mk k n d s l) left) = y := ⟨_, rfl⟩
  rw [hy]
  have HY := Lib.hid hy
  clear hy
  go_enter Tryd.func8, Tryd.ntmps8
  go_wp2_with (first | (go_at_call 11; refine (rFew_any (.mk k n d s l) _ left B _ (HV.out.kept (((Below.refl _ _).alloc (Nat.le_refl _) _).mono hB)) (by simp; omega) h0 h1).mono ?_; rw [HY.out]; rintro e' w1 ⟨rfl, hb1⟩))
  go_ret
  exact ⟨rfl, ((Below.refl _ _).alloc (Nat.le_refl _) _).trans (hb1.mono (by simp))⟩

end Go.Proofs.YtlpkpkcfgchngaaDoor
