/-
  What the proofs lean on: FewAll, RdText, Parses.
-/
import Derived.Below
import Derived.Lib.Hide
import Derived.WalkSpells
import Derived.Test.YtpcneeekmhdhgaaGreatDoorRdzA01
import Derived.Test.YtpcneeekmhdhgaaGreatDoorRdzA02
set_option maxRecDepth 100000
set_option maxHeartbeats 16000000
namespace Go.Proofs.YtpcneeekmhdhgaaGreatDoor
section
open Go.RowKit
mutual
def RepD (w : World) (B : Nat) : Dat → Value → Prop
 | .mk k n d s l, v => ∃ o len cap, v = .agg #[.int .i64 k, .int .i64 n, .int .i64 d, .string s, .slice o len cap] ∧
   (-9223372036854775808 ≤ k ∧ k ≤ 9223372036854775807) ∧ (-9223372036854775808 ≤ n ∧ n ≤ 9223372036854775807) ∧ (-9223372036854775808 ≤ d ∧ d ≤ 9223372036854775807) ∧ s.size ≤ 140737488351232 ∧
   len = l.length ∧ len ≤ cap ∧ cap ≤ 9223372036854775807 ∧ (match o with | none => l = [] ∧ cap = 0 | some a => (l ≠ [] → a.spot = none ∧ a.block < B) ∧ RepC w B l a.block a.off)
def RepC (w : World) (B : Nat) : List Dat → Nat → Nat → Prop
 | [], _, _ => True
 | x :: l, b, off => (∃ c0 c1 c2 c3 c4, w.cell? ⟨b, off, none⟩ = some c0 ∧ w.cell? ⟨b, off + 1, none⟩ = some c1 ∧ w.cell? ⟨b, off + 2, none⟩ = some c2 ∧ w.cell? ⟨b, off + 3, none⟩ = some c3 ∧ w.cell? ⟨b, off + 4, none⟩ = some c4 ∧ RepD w B x (.agg #[c0, c1, c2, c3, c4])) ∧ RepC w B l b (off + 5)
end
def RepS (w : World) (B : Nat) (l : List Dat) (v : Value) : Prop :=
 ∃ o len cap, v = .slice o len cap ∧ len = l.length ∧ len ≤ cap ∧ cap ≤ 9223372036854775807 ∧ (match o with | none => l = [] ∧ cap = 0 | some a => (l ≠ [] → a.spot = none ∧ a.block < B) ∧ RepC w B l a.block a.off)
theorem RepD.open {w : World} {B : Nat} {k n d : Int} {s : ByteArray} {l : List Dat} {v : Value} (h : RepD w B (.mk k n d s l) v) :
  ∃ sl, v = .agg #[.int .i64 k, .int .i64 n, .int .i64 d, .string s, sl] ∧ (-9223372036854775808 ≤ k ∧ k ≤ 9223372036854775807) ∧ (-9223372036854775808 ≤ n ∧ n ≤ 9223372036854775807) ∧ (-9223372036854775808 ≤ d ∧ d ≤ 9223372036854775807) ∧ s.size ≤ 140737488351232 ∧ RepS w B l sl := by
 rw [RepD] at h
 obtain ⟨o, len, cap, rfl, h1, h2, h3, h4, h5⟩ := h
 exact ⟨_, rfl, h1, h2, h3, h4, o, len, cap, rfl, h5⟩
theorem RepD.shut {w : World} {B : Nat} {k n d : Int} {s : ByteArray} {l : List Dat} {sl : Value} (h1 : -9223372036854775808 ≤ k ∧ k ≤ 9223372036854775807) (h2 : -9223372036854775808 ≤ n ∧ n ≤ 9223372036854775807) (h3 : -9223372036854775808 ≤ d ∧ d ≤ 9223372036854775807) (h4 : s.size ≤ 140737488351232) (h : RepS w B l sl) :
  RepD w B (.mk k n d s l) (.agg #[.int .i64 k, .int .i64 n, .int .i64 d, .string s, sl]) := by
 obtain ⟨o, len, cap, rfl, h5⟩ := h
 rw [RepD]
 exact ⟨o, len, cap, rfl, h1, h2, h3, h4, h5⟩
theorem RepC.at {w : World} {B b : Nat} : ∀ {l : List Dat} {off : Nat}, RepC w B l b off → ∀ (i : Nat) (x : Dat), l[i]? = some x →
  ∃ c0 c1 c2 c3 c4, w.cell? ⟨b, off + i * 5, none⟩ = some c0 ∧ w.cell? ⟨b, off + i * 5 + 1, none⟩ = some c1 ∧ w.cell? ⟨b, off + i * 5 + 2, none⟩ = some c2 ∧ w.cell? ⟨b, off + i * 5 + 3, none⟩ = some c3 ∧ w.cell? ⟨b, off + i * 5 + 4, none⟩ = some c4 ∧ RepD w B x (.agg #[c0, c1, c2, c3, c4])
 | [], _, _, i, x, hx => by simp at hx
 | y :: l, off, h, i, x, hx => by
  rw [RepC] at h
  cases i with
  | zero =>
   simp only [List.getElem?_cons_zero, Option.some.injEq] at hx
   subst hx
   simpa using h.1
  | succ i =>
   have := RepC.at h.2 i x (by simpa using hx)
   have e : off + (i + 1) * 5 = off + 5 + i * 5 := by omega
   rw [e]; exact this
theorem rep_kept {w w' : World} {B : Nat} (hk : ∀ b o, b < B → w'.cell? ⟨b, o, none⟩ = w.cell? ⟨b, o, none⟩) :
  (∀ x v, RepD w B x v → RepD w' B x v) ∧ (∀ l b off, b < B → RepC w B l b off → RepC w' B l b off) := by
 have both : (∀ x : Dat, ∀ v, RepD w B x v → RepD w' B x v) := by
  intro x
  refine Dat.rec (motive_1 := fun x => ∀ v, RepD w B x v → RepD w' B x v) (motive_2 := fun l => ∀ b off, b < B → RepC w B l b off → RepC w' B l b off) ?_ ?_ ?_ x
  ·intro k n d s l ih v h
   rw [RepD] at h ⊢
   obtain ⟨o, len, cap, rfl, h1, h2, h3, h4, h5, h6, h7, h8⟩ := h
   refine ⟨o, len, cap, rfl, h1, h2, h3, h4, h5, h6, h7, ?_⟩
   cases o with
   | none => exact h8
   | some a =>
    refine ⟨h8.1, ?_⟩
    by_cases hl : l = []
    ·subst hl; rw [RepC]; trivial
    ·exact ih _ _ (h8.1 hl).2 h8.2
  ·intro b off _ _; rw [RepC]; trivial
  ·intro x l ihx ihl b off hb h
   rw [RepC] at h ⊢
   obtain ⟨⟨c0, c1, c2, c3, c4, h0, h1, h2, h3, h4, h5⟩, h6⟩ := h
   exact ⟨⟨c0, c1, c2, c3, c4, by rw [hk _ _ hb]; exact h0, by rw [hk _ _ hb]; exact h1, by rw [hk _ _ hb]; exact h2, by rw [hk _ _ hb]; exact h3, by rw [hk _ _ hb]; exact h4, ihx _ h5⟩, ihl _ _ hb h6⟩
 refine ⟨both, ?_⟩
 intro l
 induction l with
 | nil => intro b off _ _; rw [RepC]; trivial
 | cons x l ih =>
  intro b off hb h
  rw [RepC] at h ⊢
  obtain ⟨⟨c0, c1, c2, c3, c4, h0, h1, h2, h3, h4, h5⟩, h6⟩ := h
  exact ⟨⟨c0, c1, c2, c3, c4, by rw [hk _ _ hb]; exact h0, by rw [hk _ _ hb]; exact h1, by rw [hk _ _ hb]; exact h2, by rw [hk _ _ hb]; exact h3, by rw [hk _ _ hb]; exact h4, both _ _ h5⟩, ih _ _ hb h6⟩
theorem below_cells {B : Nat} {w w' : World} (h : Below B w w') : ∀ b o, b < B → w'.cell? ⟨b, o, none⟩ = w.cell? ⟨b, o, none⟩ :=
 fun b o hb => h.cell (p := ⟨b, o, none⟩) hb
theorem RepD.kept {w w' : World} {B : Nat} {x : Dat} {v : Value} (h : RepD w B x v) (hb : Below B w w') : RepD w' B x v := (rep_kept (below_cells hb)).1 x v h
theorem RepC.kept {w w' : World} {B : Nat} {l : List Dat} {b off : Nat} (h : RepC w B l b off) (hB : b < B) (hb : Below B w w') : RepC w' B l b off := (rep_kept (below_cells hb)).2 l b off hB h
theorem RepS.kept {w w' : World} {B : Nat} {l : List Dat} {v : Value} (h : RepS w B l v) (hb : Below B w w') : RepS w' B l v := by
 obtain ⟨o, len, cap, rfl, h1, h2, h3, h4⟩ := h
 refine ⟨o, len, cap, rfl, h1, h2, h3, ?_⟩
 cases o with
 | none => exact h4
 | some a =>
  refine ⟨h4.1, ?_⟩
  by_cases hl : l = []
  ·subst hl; rw [RepC]; trivial
  ·exact h4.2.kept (h4.1 hl).2 hb
theorem rep_wider {w : World} {B B' : Nat} (hB : B ≤ B') : (∀ x v, RepD w B x v → RepD w B' x v) ∧ (∀ l b off, RepC w B l b off → RepC w B' l b off) := by
 have both : (∀ x : Dat, ∀ v, RepD w B x v → RepD w B' x v) := by
  intro x
  refine Dat.rec (motive_1 := fun x => ∀ v, RepD w B x v → RepD w B' x v) (motive_2 := fun l => ∀ b off, RepC w B l b off → RepC w B' l b off) ?_ ?_ ?_ x
  ·intro k n d s l ih v h
   rw [RepD] at h ⊢
   obtain ⟨o, len, cap, rfl, h1, h2, h3, h4, h5, h6, h7, h8⟩ := h
   refine ⟨o, len, cap, rfl, h1, h2, h3, h4, h5, h6, h7, ?_⟩
   cases o with
   | none => exact h8
   | some a => exact ⟨fun hl => ⟨(h8.1 hl).1, Nat.lt_of_lt_of_le (h8.1 hl).2 hB⟩, ih _ _ h8.2⟩
  ·intro b off _; rw [RepC]; trivial
  ·intro x l ihx ihl b off h
   rw [RepC] at h ⊢
   obtain ⟨⟨c0, c1, c2, c3, c4, h0, h1, h2, h3, h4, h5⟩, h6⟩ := h
   exact ⟨⟨c0, c1, c2, c3, c4, h0, h1, h2, h3, h4, ihx _ h5⟩, ihl _ _ h6⟩
 refine ⟨both, ?_⟩
 intro l
 induction l with
 | nil => intro b off _; rw [RepC]; trivial
 | cons x l ih =>
  intro b off h
  rw [RepC] at h ⊢
  obtain ⟨⟨c0, c1, c2, c3, c4, h0, h1, h2, h3, h4, h5⟩, h6⟩ := h
  exact ⟨⟨c0, c1, c2, c3, c4, h0, h1, h2, h3, h4, both _ _ h5⟩, ih _ _ h6⟩
theorem RepD.wider {w : World} {B B' : Nat} {x : Dat} {v : Value} (h : RepD w B x v) (hB : B ≤ B') : RepD w B' x v := (rep_wider hB).1 x v h
theorem RepS.wider {w : World} {B B' : Nat} {l : List Dat} {v : Value} (h : RepS w B l v) (hB : B ≤ B') : RepS w B' l v := by
 obtain ⟨o, len, cap, rfl, h1, h2, h3, h4⟩ := h
 refine ⟨o, len, cap, rfl, h1, h2, h3, ?_⟩
 cases o with
 | none => exact h4
 | some a => exact ⟨fun hl => ⟨(h4.1 hl).1, Nat.lt_of_lt_of_le (h4.1 hl).2 hB⟩, (rep_wider hB).2 _ _ _ h4.2⟩
end
section
open Go.RowKit
theorem few_ge : ∀ x : Dat, ∀ left : Int, 0 ≤ left → -1 ≤ Dat.few x left := by
 have hL : ∀ l : List Dat, (∀ x ∈ l, ∀ left : Int, 0 ≤ left → -1 ≤ Dat.few x left) → ∀ left : Int, -1 ≤ left → -1 ≤ Dat.fewL l left := by
  intro l
  induction l with
  | nil => intro _ left h; simpa [Dat.fewL] using h
  | cons x l ih =>
   intro hx left h
   rw [Dat.fewL]
   split
   ·exact ih (fun y hy => hx y (by simp [hy])) _ (hx x (by simp) _ (by omega))
   ·exact h
 intro x
 induction x using Dat.ind with
 | h k n d s l ih =>
  intro left h
  rw [Dat.few]
  exact hL l ih _ (by omega)
theorem fewL_step {l : List Dat} {i : Nat} {x : Dat} {cur : Int} (h : l[i]? = some x) (hc : 0 ≤ cur) : Dat.fewL (l.drop i) cur = Dat.fewL (l.drop (i + 1)) (Dat.few x cur) := by
 have e : l.drop i = x :: l.drop (i + 1) := by
  obtain ⟨hi, he⟩ := List.getElem?_eq_some_iff.1 h
  rw [← he]; exact List.drop_eq_getElem_cons hi
 rw [e, Dat.fewL, if_pos hc]
theorem fewL_neg (l : List Dat) {cur : Int} (hc : ¬ 0 ≤ cur) : Dat.fewL l cur = cur := by
 cases l with
 | nil => rfl
 | cons x l => rw [Dat.fewL, if_neg hc]
theorem box_cell (w : World) (cs : Array Value) (t : TypeId) (i : Nat) {v : Value} (h : cs[i]? = some v) : (w.alloc (.cells cs t)).cell? ⟨w.heap.size, i, none⟩ = some v := by
 have hn : (w.alloc (.cells cs t)).heap[w.heap.size]? = some (.cells cs t) := (MapKept.heap_alloc w _).1
 show (match (w.alloc (.cells cs t)).heap[w.heap.size]? with | some (.cells c _ _) => _ | _ => _) = _
 rw [hn]
 simpa using h
theorem part_at {w wr : World} {B : Nat} {l : List Dat} {o : Option Addr} {cap j : Nat} {x : Dat} (h : match o with | none => l = [] ∧ cap = 0 | some a => (l ≠ [] → a.spot = none ∧ a.block < B) ∧ RepC w B l a.block a.off)
  (hb : Below B w wr) (hx : l[j]? = some x) :
  ∃ b off, o = some ⟨b, off, none⟩ ∧ ∃ c0 c1 c2 c3 c4, wr.cell? ⟨b, off + j * 5, none⟩ = some c0 ∧ wr.cell? ⟨b, off + j * 5 + 1, none⟩ = some c1 ∧ wr.cell? ⟨b, off + j * 5 + 2, none⟩ = some c2 ∧ wr.cell? ⟨b, off + j * 5 + 3, none⟩ = some c3 ∧ wr.cell? ⟨b, off + j * 5 + 4, none⟩ = some c4 ∧ RepD wr B x (.agg #[c0, c1, c2, c3, c4]) := by
 cases o with
 | none => rw [h.1] at hx; simp at hx
 | some a =>
  have hl : l ≠ [] := by rintro rfl; simp at hx
  obtain ⟨b, off, sp⟩ := a
  obtain ⟨hs, hlt⟩ := h.1 hl
  simp only at hs hlt
  subst hs
  exact ⟨b, off, rfl, (h.2.kept hlt hb).at j x hx⟩
theorem part_at2 {w wr : World} {B : Nat} {l : List Dat} {o : Option Addr} {cap j : Nat} {x : Dat} (h : match o with | none => l = [] ∧ cap = 0 | some a => (l ≠ [] → a.spot = none ∧ a.block < B) ∧ RepC w B l a.block a.off)
  (hb : Below B w wr) (hx : l[j]? = some x) :
  ∃ b off k n d s l' o' len' cap', o = some ⟨b, off, none⟩ ∧ x = .mk k n d s l' ∧ wr.cell? ⟨b, off + j * 5, none⟩ = some (.int .i64 k) ∧ wr.cell? ⟨b, off + j * 5 + 1, none⟩ = some (.int .i64 n) ∧ wr.cell? ⟨b, off + j * 5 + 2, none⟩ = some (.int .i64 d) ∧
   wr.cell? ⟨b, off + j * 5 + 3, none⟩ = some (.string s) ∧ wr.cell? ⟨b, off + j * 5 + 4, none⟩ = some (.slice o' len' cap') ∧ RepD wr B (.mk k n d s l') (.agg #[.int .i64 k, .int .i64 n, .int .i64 d, .string s, .slice o' len' cap']) := by
 obtain ⟨b, off, ho, c0, c1, c2, c3, c4, e0, e1, e2, e3, e4, er⟩ := part_at h hb hx
 obtain ⟨k, n, d, s, l'⟩ := x
 obtain ⟨sl, hv, _, _, _, _, o', len', cap', hsl, _⟩ := er.open
 subst hsl
 simp only [Value.agg.injEq, Array.mk.injEq, List.cons.injEq, and_true] at hv
 obtain ⟨rfl, rfl, rfl, rfl, rfl⟩ := hv
 exact ⟨b, off, k, n, d, s, l', o', len', cap', ho, rfl, e0, e1, e2, e3, e4, er⟩
theorem rfew_any : ∀ (x : Dat) (v : Value) (left : Int) (B : Nat) (w : World), RepD w B x v → B ≤ w.heap.size → 0 ≤ left → left ≤ 100000 →
  Calls Tryz.prog 52 #[v, .int .i64 left] w fun e w' => e = .returned (.int .i64 (Dat.few x left)) ∧ Below w.heap.size w w' := by
 intro x
 induction x using Dat.ind with
 | h k n d s l ih =>
  intro v left B w hv hB h0 h1
  obtain ⟨sl, rfl, _, _, _, _, o, len, cap, rfl, hlen, hcap, hmax, hc⟩ := hv.open
  have IH := Lib.hid ih
  have HV := Lib.hid hc
  have HL := Lib.hid hlen
  clear ih hv hc hlen
  go_enter Tryz.func52, Tryz.ntmps52
  go_wp2
  have hBox : ∀ wr, Below (w.heap.size + 1) (w.alloc (.cells #[.int .i64 k, .int .i64 n, .int .i64 d, .string s, .slice o len cap] 33)) wr → wr.cell? ⟨w.heap.size, 4, none⟩ = some (.slice o len cap) := by
   intro wr hb
   rw [hb.cell (p := ⟨w.heap.size, 4, none⟩) (by simp)]
   exact box_cell _ _ _ _ (by simp)
  have HB := Lib.hid hBox
  clear hBox
  go_loopw [1, 5] (fun a i wr => ∃ (cur : Int) (j : Nat), a = .int .i64 cur ∧ i = .int .i64 j ∧ j ≤ len ∧ -1 ≤ cur ∧ cur ≤ 100000 ∧ Dat.fewL (l.drop j) cur = Dat.fewL l (left - 1) ∧ Below (w.heap.size + 1) (w.alloc (.cells #[.int .i64 k, .int .i64 n, .int .i64 d, .string s, .slice o len cap] 33)) wr) (fun _ i _ => len - (intOf i).toNat)
  case atStart => exact ⟨left - 1, 0, rfl, rfl, by omega, by omega, by omega, rfl, Below.refl _ _⟩
  case round =>
   obtain ⟨cur, j, rfl, rfl, hj, hc1, hc2, hf, hb⟩ := hrel
   have HF := Lib.hid hf
   clear hf
   have hcell := HB.out _ hb
   by_cases hjl : j < len
   ·by_cases hcur : 0 ≤ cur
    ·obtain ⟨x, hx⟩ : ∃ x, l[j]? = some x := ⟨_, List.getElem?_eq_getElem (by rw [← HL.out]; exact hjl)⟩
     have hbw : Below w.heap.size w wr := ((Below.refl _ _).alloc (Nat.le_refl _) _).trans (hb.mono (by omega))
     obtain ⟨b, off, ho, c0, c1, c2, c3, c4, e0, e1, e2, e3, e4, er⟩ := part_at HV.out (hbw.mono hB) hx
     subst ho
     have HX := Lib.hid hx
     have ER := Lib.hid er
     have HF2 := Lib.hid ((fewL_step hx hcur).symm.trans HF.out)
     have g1 := few_ge x cur hcur
     have g2 := Dat.few_le x cur
     have hsz := hbw.size
     obtain ⟨y, hy⟩ : ∃ y, Dat.few x cur = y := ⟨_, rfl⟩
     rw [hy] at g1 g2 HF2
     have HY := Lib.hid hy
     clear hx er hy
     go_wp2_with (first | (go_at_call 52; refine (IH.out x (List.mem_of_getElem? HX.out) _ _ B _ ER.out (by omega) (by omega) (by omega)).mono ?_; rw [HY.out]; rintro e' w1 ⟨rfl, hb1⟩))
     go_roundw
     case rel => exact ⟨y, j + 1, rfl, by go_num, by omega, by omega, by omega, HF2.out, hb.trans (hb1.mono (by have := hb.size; simp at this; omega))⟩
     case measure => simp [intOf]; omega
    ·have HR := Lib.hid (show Dat.fewL l (left - 1) = cur by rw [← HF.out, fewL_neg _ hcur])
     go_wp2
     go_ret
     exact ⟨ret_int (by rw [Dat.few]; exact HR.out.symm), ((Below.refl _ _).alloc (Nat.le_refl _) _).trans (hb.mono (by omega))⟩
   ·have HR := Lib.hid (show Dat.fewL l (left - 1) = cur by
     rw [← HF.out, List.drop_eq_nil_of_le (by rw [← HL.out]; omega)]; rfl)
    go_wp2
    go_ret
    exact ⟨ret_int (by rw [Dat.few]; exact HR.out.symm), ((Below.refl _ _).alloc (Nat.le_refl _) _).trans (hb.mono (by omega))⟩
theorem rFew_any (x : Dat) (v : Value) (left : Int) (B : Nat) (w : World) (hv : RepD w B x v) (hB : B ≤ w.heap.size) (h0 : 0 ≤ left) (h1 : left ≤ 100000) :
  Calls Tryz.prog 21 #[v, .int .i64 left] w fun e w' => e = .returned (.bool (decide (0 ≤ Dat.few x left))) ∧ Below w.heap.size w w' := by
 obtain ⟨k, n, d, s, l⟩ := x
 obtain ⟨sl, rfl, _⟩ := hv.open
 have HV := Lib.hid hv
 clear hv
 obtain ⟨y, hy⟩ : ∃ y, Dat.few (.mk k n d s l) left = y := ⟨_, rfl⟩
 rw [hy]
 have HY := Lib.hid hy
 clear hy
 go_enter Tryz.func21, Tryz.ntmps21
 go_wp2_with (first | (go_at_call 52; refine (rfew_any (.mk k n d s l) _ left B _ (HV.out.kept (((Below.refl _ _).alloc (Nat.le_refl _) _).mono hB)) (by simp; omega) h0 h1).mono ?_; rw [HY.out]; rintro e' w1 ⟨rfl, hb1⟩))
 go_ret
 exact ⟨rfl, ((Below.refl _ _).alloc (Nat.le_refl _) _).trans (hb1.mono (by simp))⟩
end
section
namespace Dat
mutual
def marked : Dat → Bool
 | mk k _ _ s l => (decide (k = 2) && s.data.toList.contains 37) || markedL l
def markedL : List Dat → Bool
 | [] => false
 | x :: l => marked x || markedL l
end
theorem markedL_iff (l : List Dat) : markedL l = false ↔ ∀ x ∈ l, marked x = false := by
 induction l with
 | nil => simp [markedL]
 | cons x l ih => simp [markedL, ih]
end Dat
namespace Rd
open Go Dat
theorem D_skip {r r' : List UInt8} (h : skip false r = skip false r') : D r = D r' := by rw [D_eq, D_eq r']; unfold datF; rw [h]
theorem S_skip {p a : Bool} {r r' : List UInt8} (h : skip false r = skip false r') : S p a r = S p a r' := by rw [S_eq, S_eq p a r']; unfold seqF; rw [h]
theorem skip_sp (r : List UInt8) : skip false (32 :: r) = skip false r := by simp [skip]
theorem D_cons {b : UInt8} {t : List UInt8} (h : skip false (b :: t) = b :: t) : D (b :: t) = headF D S b t := by rw [D_eq]; unfold datF; rw [h]
theorem S_cons {p a : Bool} {b : UInt8} {t : List UInt8} (h : skip false (b :: t) = b :: t) : S p a (b :: t) = seqH D S p a b t := by rw [S_eq]; unfold seqF; rw [h]
abbrev solid (b : UInt8) : Prop := b ≠ 59 ∧ b ≠ 32 ∧ b ≠ 10 ∧ b ≠ 9
theorem skip_solid {b : UInt8} (h : solid b) (t : List UInt8) : skip false (b :: t) = b :: t := by
 simp only [skip]
 rw [if_neg h.1, if_neg]
 rintro (h1 | h1 | h1)
 ·exact h.2.1 h1
 ·exact h.2.2.1 h1
 ·exact h.2.2.2 h1
theorem mark_solid {b : UInt8} (h : mark b = true) : solid b ∧ b ≠ 46 ∧ b ≠ 41 := by
 refine ⟨⟨?_, ?_, ?_, ?_⟩, ?_, ?_⟩ <;> rintro rfl <;> revert h <;> decide
theorem name_mark {b : UInt8} (h : nameByte b = true) (h2 : b ≠ 37) : mark b = true := by
 have : ∀ k : Fin 256, nameByte (UInt8.ofNat k.val) = true → UInt8.ofNat k.val ≠ 37 → mark (UInt8.ofNat k.val) = true := by decide +kernel
 have e : b = UInt8.ofNat b.toNat := by simp
 rw [e] at h h2 ⊢
 exact this ⟨b.toNat, b.toNat_lt⟩ h h2
theorem digit_mark {b : UInt8} (h : Num.isDigit b = true) : mark b = true :=
 name_mark (digit_name h) (by rintro rfl; revert h; decide)
theorem itoa_mark (n : Int) : ∀ b ∈ Lib.itoa n, mark b = true := by
 intro b hb
 unfold Lib.itoa at hb
 split at hb
 ·rcases List.mem_cons.1 hb with rfl | hb
  ·decide
  ·exact digit_mark (Num.decDigits_digit _ b hb)
 ·exact digit_mark (Num.decDigits_digit _ b hb)
theorem text_mark {n d : Int} (h : Num.right n d = true) : ∀ b ∈ Num.text n d, mark b = true := by
 unfold Num.text
 rw [if_pos h]
 intro b hb
 rcases List.mem_append.1 hb with hb | hb
 ·exact itoa_mark _ b hb
 ·split at hb
  ·cases hb
  ·rcases List.mem_cons.1 hb with rfl | hb
   ·decide
   ·exact itoa_mark _ b hb
def ends (r : List UInt8) : Prop := r = [] ∨ ∃ c t, r = c :: t ∧ mark c = false
theorem delim_ends {r : List UInt8} (h : delim r) : ends r := by
 rcases h with h | ⟨t, h | h⟩
 ·exact .inl h
 ·exact .inr ⟨_, _, h, by decide⟩
 ·exact .inr ⟨_, _, h, by decide⟩
theorem D_word {s r : List UInt8} (hs : s ≠ []) (hm : ∀ b ∈ s, mark b = true) (hr : ends r) :
  D (s ++ r) = if (Num.parse s).2.2 then .ok (mk 0 (Num.parse s).1 (Num.parse s).2.1 emptyB []) r else if 40 < s.length then .bad (s ++ r) else .ok (mk 2 0 0 ⟨s.toArray⟩ []) r := by
 cases s with
 | nil => exact absurd rfl hs
 | cons c t =>
  have hc := hm c (by simp)
  have tw := takeWhile_delim mark hm hr
  rw [List.cons_append] at tw ⊢
  rw [D_cons (skip_solid (mark_solid hc).1 _)]
  unfold headF
  rw [if_pos hc]
  unfold word
  rw [tw.1, tw.2]
theorem D_num {n d : Int} (h : Num.right n d = true) {r : List UInt8} (hr : ends r) : D (Num.text n d ++ r) = .ok (mk 0 n d emptyB []) r := by
 rw [D_word (text_name h).2 (text_mark h) hr, Num.parse_text h]
 rfl
theorem D_name {s : ByteArray} (h : name s.data.toList = true) (h37 : s.data.toList.contains 37 = false) {r : List UInt8} (hr : ends r) : D (s.data.toList ++ r) = .ok (mk 2 0 0 s []) r := by
 obtain ⟨ha, hne, hp⟩ := name_iff h
 have h40 : ¬ 40 < s.data.toList.length := by
  simp only [name, Bool.and_eq_true, decide_eq_true_eq] at h
  have := h.2.1; omega
 rw [D_word hne (fun b hb => name_mark (ha b hb) (fun e => by
  subst e
  have : s.data.toList.contains 37 = true := by simpa using hb
  rw [h37] at this; cases this)) hr, hp, if_neg (by decide), if_neg h40, of_toList]
theorem text_solid : ∀ x : Dat, ∀ deep, right x deep = true → marked x = false → ∃ c t, text x false = c :: t ∧ c ≠ 46 ∧ c ≠ 41 ∧ solid c := by
 intro x deep h hm
 obtain ⟨k, n, d, s, l⟩ := x
 simp only [right, Bool.and_eq_true, decide_eq_true_eq] at h
 rcases head_cases h.2.1 with ⟨rfl, h1, rfl, rfl⟩ | ⟨rfl, rfl, h1, rfl, rfl⟩ | ⟨rfl, rfl, rfl, h1, rfl⟩ | ⟨rfl, rfl, rfl, h1, rfl⟩ | ⟨rfl, rfl, rfl, rfl, rfl⟩ | ⟨rfl, rfl, rfl, rfl, rfl⟩ | ⟨rfl, rfl, rfl, rfl, a, b, rfl⟩ | ⟨rfl, rfl, rfl, rfl⟩
 ·cases ht : Num.text n d with
  | nil => exact absurd ht (text_name h1).2
  | cons c t =>
   have := mark_solid (text_mark h1 c (by rw [ht]; simp))
   exact ⟨c, t, by simp [text, textA, ht], this.2.1, this.2.2, this.1⟩
 ·rcases h1 with rfl | rfl
  ·exact ⟨35, [102], by simp [text, textA], by decide, by decide, by decide⟩
  ·exact ⟨35, [116], by simp [text, textA], by decide, by decide, by decide⟩
 ·obtain ⟨ha, hne, _⟩ := name_iff h1
  simp only [marked, decide_true, Bool.true_and, markedL, Bool.or_false] at hm
  cases ht : s.data.toList with
  | nil => exact absurd ht hne
  | cons c t =>
   have := mark_solid (name_mark (ha c (by rw [ht]; simp)) (fun e => by subst e; rw [ht] at hm; simp at hm))
   exact ⟨c, t, by simp [text, textA, ht], this.2.1, this.2.2, this.1⟩
 ·exact ⟨34, s.data.toList ++ [34], by simp [text, textA], by decide, by decide, by decide⟩
 ·exact ⟨40, [41], by simp [text, textA], by decide, by decide, by decide⟩
 ·exact ⟨35, [118], by simp [text, textA], by decide, by decide, by decide⟩
 ·exact ⟨40, textP [a, b] ++ [41], by simp [text], by decide, by decide, by decide⟩
 ·exact ⟨35, 40 :: (textV l true ++ [41]), by simp [text, textA], by decide, by decide, by decide⟩
theorem S_more {x : Dat} {t q r' : List UInt8} {p a : Bool} {l : List Dat} {e : Dat} (ht : ∃ c r, t = c :: r ∧ c ≠ 46 ∧ c ≠ 41 ∧ solid c) (hD : D (t ++ q) = .ok x q) (hS : S p true q = .ok (l, e) r') : S p a (t ++ q) = .ok (x :: l, e) r' := by
 obtain ⟨c, r, rfl, h46, h41, hc⟩ := ht
 rw [List.cons_append] at hD ⊢
 rw [S_cons (skip_solid hc _)]
 unfold seqH
 rw [if_neg h41, if_neg (fun h => h46 h.1)]
 unfold oneF
 rw [hD]
 simp only
 rw [hS]
 rfl
theorem S_shut (p a : Bool) (r : List UInt8) : S p a (41 :: r) = .ok ([], null) r := by
 rw [S_cons (skip_solid (by decide) _)]
 unfold seqH
 rw [if_pos rfl]
theorem delim41 (r : List UInt8) : delim (41 :: r) := .inr ⟨r, .inr rfl⟩
theorem S_textV : ∀ (l : List Dat) (first a : Bool) (r : List UInt8), (∀ x ∈ l, ∃ deep, right x deep = true) → (∀ x ∈ l, marked x = false) → (∀ x ∈ l, ∀ r, delim r → D (text x false ++ r) = .ok x r) → S false a (textV l first ++ 41 :: r) = .ok (l, null) r
 | [], _, a, r, _, _, _ => by simp only [textV, List.nil_append]; exact S_shut _ _ _
 | x :: l, first, a, r, hr, hm, h => by
  obtain ⟨deep, hx⟩ := hr x (by simp)
  have ih := S_textV l false true r (fun y hy => hr y (by simp [hy])) (fun y hy => hm y (by simp [hy])) (fun y hy => h y (by simp [hy]))
  have hd : delim (textV l false ++ 41 :: r) := by
   cases l with
   | nil => simp only [textV, List.nil_append]; exact delim41 r
   | cons y l => exact .inr ⟨_, .inl (by simp only [textV]; rfl)⟩
  have key : S false a (text x false ++ (textV l false ++ 41 :: r)) = .ok (x :: l, null) r := S_more (text_solid x deep hx (hm x (by simp))) (h x (by simp) _ hd) ih
  cases first with
  | true => simpa only [textV, if_true, List.nil_append, List.append_assoc] using key
  | false =>
   simp only [textV, Bool.false_eq_true, if_false, List.append_assoc, List.cons_append, List.nil_append]
   rw [S_skip (skip_sp _)]
   exact key
theorem D_both : ∀ x : Dat, ∀ deep, right x deep = true → marked x = false →
  (∀ r, delim r → D (text x false ++ r) = .ok x r) ∧ (∀ r, ∃ p, S true true (text x true ++ 41 :: r) = .ok p r ∧ chain p = x) := by
 intro x
 induction x using ind with
 | h k n d s l ih =>
  intro deep h hm
  have hrt := h
  simp only [right, Bool.and_eq_true, decide_eq_true_eq] at h
  have hparts := (rightL_iff _ _).1 h.2.2
  have hmp : ∀ y ∈ l, marked y = false := by
   simp only [marked, Bool.or_eq_false_iff] at hm
   exact (markedL_iff _).1 hm.2
  have tl : k ≠ 6 → k ≠ 4 → (∀ r, delim r → D (text (mk k n d s l) false ++ r) = .ok (mk k n d s l) r) →
    ∀ r, ∃ p, S true true (text (mk k n d s l) true ++ 41 :: r) = .ok p r ∧ chain p = mk k n d s l := by
   intro h6 h4 hA r
   refine ⟨([], mk k n d s l), ?_, rfl⟩
   have e : text (mk k n d s l) true = 32 :: 46 :: 32 :: text (mk k n d s l) false := by simp [text, h6, h4]
   rw [e]
   simp only [List.cons_append]
   rw [S_skip (skip_sp _), S_cons (skip_solid (by decide) _)]
   unfold seqH
   rw [if_neg (by decide), if_pos ⟨rfl, rfl, rfl⟩]
   unfold pointF
   rw [D_skip (skip_sp _), hA _ (delim41 r)]
   simp only
   unfold shutF
   rw [skip_solid (by decide)]
   rfl
  rcases head_cases h.2.1 with ⟨rfl, h1, rfl, rfl⟩ | ⟨rfl, rfl, h1, rfl, rfl⟩ | ⟨rfl, rfl, rfl, h1, rfl⟩ | ⟨rfl, rfl, rfl, h1, rfl⟩ | ⟨rfl, rfl, rfl, rfl, rfl⟩ | ⟨rfl, rfl, rfl, rfl, rfl⟩ | ⟨rfl, rfl, rfl, rfl, a, b, rfl⟩ | ⟨rfl, rfl, rfl, rfl⟩
  ·have A : ∀ r, delim r → D (text (mk 0 n d emptyB []) false ++ r) = .ok (mk 0 n d emptyB []) r := fun r hr => by
    have e : text (mk 0 n d emptyB []) false = Num.text n d := by simp [text, textA]
    rw [e]
    exact D_num h1 (delim_ends hr)
   exact ⟨A, tl (by decide) (by decide) A⟩
  ·have A : ∀ r, delim r → D (text (mk 1 n 0 emptyB []) false ++ r) = .ok (mk 1 n 0 emptyB []) r := fun r _ => by
    rcases h1 with rfl | rfl
    ·have e : text (mk 1 0 0 emptyB []) false = [35, 102] := by simp [text, textA]
     rw [e, List.cons_append, D_cons (skip_solid (by decide) _)]
     rfl
    ·have e : text (mk 1 1 0 emptyB []) false = [35, 116] := by simp [text, textA]
     rw [e, List.cons_append, D_cons (skip_solid (by decide) _)]
     rfl
   exact ⟨A, tl (by decide) (by decide) A⟩
  ·have A : ∀ r, delim r → D (text (mk 2 0 0 s []) false ++ r) = .ok (mk 2 0 0 s []) r := fun r hr => by
    have e : text (mk 2 0 0 s []) false = s.data.toList := by simp [text, textA]
    rw [e]
    simp only [marked, decide_true, Bool.true_and, markedL, Bool.or_false] at hm
    exact D_name h1 hm (delim_ends hr)
   exact ⟨A, tl (by decide) (by decide) A⟩
  ·have A : ∀ r, delim r → D (text (mk 3 0 0 s []) false ++ r) = .ok (mk 3 0 0 s []) r := fun r _ => by
    have e : text (mk 3 0 0 s []) false = 34 :: (s.data.toList ++ [34]) := by simp [text, textA]
    rw [e, List.cons_append, D_cons (skip_solid (by decide) _)]
    unfold headF
    rw [if_neg (by decide), if_pos rfl]
    have tw := takeWhile_delim strByte (l := s.data.toList) (r := 34 :: r) (List.all_eq_true.1 h1) (.inr ⟨34, r, rfl, by decide⟩)
    unfold str
    rw [List.append_assoc]
    simp only [List.cons_append, List.nil_append]
    rw [tw.1, tw.2]
    simp only
    rw [if_pos trivial, of_toList]
   exact ⟨A, tl (by decide) (by decide) A⟩
  ·refine ⟨fun r _ => ?_, fun r => ⟨([], null), ?_, rfl⟩⟩
   ·have e : text (mk 4 0 0 emptyB []) false = [40, 41] := by simp [text, textA]
    rw [e, List.cons_append, D_cons (skip_solid (by decide) _)]
    unfold headF
    rw [if_neg (by decide), if_neg (by decide), if_neg (by decide), if_neg (by decide), if_pos rfl]
    simp only [List.cons_append, List.nil_append]
    rw [S_shut]
    rfl
   ·have e : text (mk 4 0 0 emptyB []) true = [] := by simp [text]
    rw [e, List.nil_append, S_shut]
  ·have A : ∀ r, delim r → D (text (mk 5 0 0 emptyB []) false ++ r) = .ok (mk 5 0 0 emptyB []) r := fun r _ => by
    have e : text (mk 5 0 0 emptyB []) false = [35, 118] := by simp [text, textA]
    rw [e, List.cons_append, D_cons (skip_solid (by decide) _)]
    rfl
   exact ⟨A, tl (by decide) (by decide) A⟩
  ·have ra := hparts a (by simp)
   have rb := hparts b (by simp)
   have ia := ih a (by simp) _ ra (hmp a (by simp))
   have ib := ih b (by simp) _ rb (hmp b (by simp))
   have key : ∀ any r, ∃ p, S true any (text a false ++ (text b true ++ 41 :: r)) = .ok p r ∧ chain p = pair a b := by
    intro any r
    obtain ⟨⟨l, e⟩, h1, h2⟩ := ib.2 r
    refine ⟨(a :: l, e), S_more (text_solid a _ ra (hmp a (by simp))) (ia.1 _ (delim_tail b r)) h1, ?_⟩
    rw [← h2]; rfl
   constructor
   ·intro r _
    have e : text (mk 6 0 0 emptyB [a, b]) false = 40 :: (text a false ++ text b true ++ [41]) := by simp [text, textP]
    rw [e, List.cons_append, D_cons (skip_solid (by decide) _)]
    unfold headF
    rw [if_neg (by decide), if_neg (by decide), if_neg (by decide), if_neg (by decide), if_pos rfl]
    obtain ⟨p, h1, h2⟩ := key false r
    simp only [List.append_assoc, List.cons_append, List.nil_append]
    rw [h1]
    simp only [Res.map, h2]
    rfl
   ·intro r
    have e : text (mk 6 0 0 emptyB [a, b]) true = 32 :: (text a false ++ text b true) := by simp [text, textP]
    rw [e, List.cons_append, List.append_assoc, S_skip (skip_sp _)]
    exact key true r
  ·have A : ∀ r, delim r → D (text (mk 7 0 0 emptyB l) false ++ r) = .ok (mk 7 0 0 emptyB l) r := fun r _ => by
    have e : text (mk 7 0 0 emptyB l) false = 35 :: 40 :: (textV l true ++ [41]) := by simp [text, textA]
    rw [e, List.cons_append, D_cons (skip_solid (by decide) _)]
    unfold headF
    rw [if_neg (by decide), if_neg (by decide), if_neg (by decide), if_pos rfl]
    simp only [hashF, List.cons_append, List.append_assoc, List.nil_append]
    rw [if_neg (by decide), if_neg (by decide), if_neg (by decide), if_pos trivial]
    rw [S_textV l true false r (fun y hy => ⟨_, hparts y hy⟩) hmp (fun y hy => (ih y hy _ (hparts y hy) (hmp y hy)).1)]
    rfl
   exact ⟨A, tl (by decide) (by decide) A⟩
theorem D_text {x : Dat} {deep : Nat} (h : right x deep = true) (hm : marked x = false) {r : List UInt8} (hr : delim r) : D (text x false ++ r) = .ok x r := (D_both x deep h hm).1 r hr
def texts : List Dat → List UInt8
 | [] => []
 | x :: l => text x false ++ 32 :: texts l
theorem S_texts : ∀ (l : List Dat) (p a : Bool) (r : List UInt8), (∀ x ∈ l, right x 0 = true) → (∀ x ∈ l, marked x = false) → S p a (texts l ++ 41 :: r) = .ok (l, null) r
 | [], p, a, r, _, _ => S_shut p a r
 | x :: l, p, a, r, hr, hm => by
  have ih := S_texts l p true r (fun y hy => hr y (by simp [hy])) (fun y hy => hm y (by simp [hy]))
  have h := hr x (by simp)
  have hmx := hm x (by simp)
  have e : texts (x :: l) ++ 41 :: r = text x false ++ (32 :: (texts l ++ 41 :: r)) := by simp [texts]
  rw [e]
  refine S_more (text_solid x 0 h hmx) (D_text h hmx (.inr ⟨_, .inl rfl⟩)) ?_
  rw [S_skip (skip_sp _)]
  exact ih
theorem chain_list (l : List Dat) : chain (l, null) = list l := by
 induction l with
 | nil => rfl
 | cons x l ih => exact congrArg (pair x) ih
theorem A_list (l : List Dat) (hr : ∀ x ∈ l, right x 0 = true) (hm : ∀ x ∈ l, marked x = false) : A (40 :: (texts l ++ [41])) = if right (list l) 0 = true then .ok [list l] [] else .bad (40 :: (texts l ++ [41])) := by
 rw [A_cons (skip_solid (by decide) _), D_cons (skip_solid (by decide) _)]
 unfold headF
 rw [if_neg (by decide), if_neg (by decide), if_neg (by decide), if_neg (by decide), if_pos rfl, S_texts l true false [] hr hm]
 simp only [Res.map, chain_list]
 rw [A_nil (r := []) rfl]
theorem A_vec (l : List Dat) (hr : ∀ x ∈ l, right x 0 = true) (hm : ∀ x ∈ l, marked x = false) : A (35 :: 40 :: (texts l ++ [41])) = if right (mk 7 0 0 emptyB l) 0 = true then .ok [mk 7 0 0 emptyB l] [] else .bad (35 :: 40 :: (texts l ++ [41])) := by
 rw [A_cons (skip_solid (by decide) _), D_cons (skip_solid (by decide) _)]
 unfold headF
 rw [if_neg (by decide), if_neg (by decide), if_neg (by decide), if_pos rfl]
 simp only [hashF]
 rw [if_neg (by decide), if_neg (by decide), if_neg (by decide), if_pos trivial, S_texts l false false [] hr hm]
 simp only [Res.map]
 rw [A_nil (r := []) rfl]
theorem right_list : ∀ (l : List Dat) (deep : Nat), right (list l) deep = true → ∀ x ∈ l, right x (deep + 1) = true
 | [], _, _, _, h => by cases h
 | y :: l, deep, h, x, hx => by
  simp only [list, pair, right, Bool.and_eq_true] at h
  have hy := h.2.2
  simp only [rightL, Bool.and_eq_true] at hy
  rcases List.mem_cons.1 hx with rfl | hx
  ·exact hy.1
  ·exact right_less x _ _ (by omega) (right_list l (deep + 1) hy.2.1 x hx)
theorem vec_of_list {l : List Dat} (h : right (list l) 0 = true) : right (mk 7 0 0 emptyB l) 0 = true := by
 have := (rightL_iff l 1).2 (right_list l 0 h)
 simp [right, head, emptyB, this]
theorem A_num {n d : Int} (h : Num.right n d = true) : A (Num.text n d) = .ok [mk 0 n d emptyB []] [] := by
 have hd := D_num h (r := []) (.inl rfl)
 rw [List.append_nil] at hd
 have hr : right (mk 0 n d emptyB []) 0 = true := by simp [right, head, rightL, h, emptyB]
 cases ht : Num.text n d with
 | nil => exact absurd ht (text_name h).2
 | cons c t =>
  rw [ht] at hd
  have hc := text_mark h c (by rw [ht]; simp)
  rw [A_cons (skip_solid (mark_solid hc).1 t), hd]
  simp only
  rw [if_pos hr, A_nil (r := []) rfl]
  rfl
theorem right_quote : right quoteD 1 = true := by decide +kernel
theorem right_pair_eq (a b : Dat) (deep : Nat) : right (pair a b) deep = (decide (deep ≤ 200) && (right a (deep + 1) && right b (deep + 1))) := by simp [pair, right, rightL, head]
theorem right_null_eq (deep : Nat) : right null deep = decide (deep ≤ 200) := by simp [null, right, rightL, head]
theorem right_quoted {x : Dat} (h : right x 2 = true) : right (quoted x) 0 = true := by
 simp only [quoted, list]
 rw [right_pair_eq, right_pair_eq, right_null_eq, right_quote, h]
 rfl
theorem A_quoted {n d : Int} (h : Num.right n d = true) : A (39 :: Num.text n d) = .ok [quoted (mk 0 n d emptyB [])] [] ∧ text (quoted (mk 0 n d emptyB [])) false = [40, 113, 117, 111, 116, 101, 32] ++ (Num.text n d ++ [41]) := by
 have hd := D_num h (r := []) (.inl rfl)
 rw [List.append_nil] at hd
 have hr : right (mk 0 n d emptyB []) 2 = true := by simp [right, head, rightL, h, emptyB]
 constructor
 ·rw [A_cons (skip_solid (by decide) _), D_cons (skip_solid (by decide) _)]
  unfold headF
  rw [if_neg (by decide), if_neg (by decide), if_pos rfl, hd]
  simp only [Res.map]
  rw [if_pos (right_quoted hr), A_nil (r := []) rfl]
 ·simp [quoted, list, pair, null, quoteD, text, textP, textA]
theorem A_name {s : ByteArray} (h : name s.data.toList = true) (h37 : s.data.toList.contains 37 = false) : A s.data.toList = .ok [mk 2 0 0 s []] [] := by
 have hd := D_name h h37 (r := []) (.inl rfl)
 rw [List.append_nil] at hd
 have hr : right (mk 2 0 0 s []) 0 = true := by simp [right, head, rightL, h]
 obtain ⟨ha, hne, _⟩ := name_iff h
 cases ht : s.data.toList with
 | nil => exact absurd ht hne
 | cons c t =>
  rw [ht] at hd
  have hc := name_mark (ha c (by rw [ht]; simp)) (fun e => by subst e; rw [ht] at h37; simp at h37)
  rw [A_cons (skip_solid (mark_solid hc).1 t), hd]
  simp only
  rw [if_pos hr, A_nil (r := []) rfl]
  rfl
end Rd
end
section
open Go.RowKit
theorem ret_string {l m : List UInt8} (h : l = m) : Ending.returned (.string ⟨l.toArray⟩) = .returned (.string ⟨m.toArray⟩) := by rw [h]
theorem text_any (n d : Int) (h0 : -9223372036854775808 ≤ n) (h1 : n ≤ 9223372036854775807) (h2 : -9223372036854775808 ≤ d) (h3 : d ≤ 9223372036854775807) (w : World) (hE : Env w) :
  Calls Tryz.prog 85 #[.int .i64 n, .int .i64 d] w fun e w' => e = .returned (.string ⟨(Num.text n d).toArray⟩) ∧ Below w.heap.size w w' := by
 cases hr : Num.right n d
 ·have HK := Lib.hid (show Num.text n d = [] by simp [Num.text, hr])
  have HR := Lib.hid hr
  go_enter Tryz.func85, Tryz.ntmps85
  go_wp2_with (first | (go_at_call 128; refine (right_to n d false HR.out (by omega) (by omega) (by omega) (by omega) _).mono ?_; rintro e' w1 ⟨rfl, k, rfl⟩))
  go_ret
  exact ⟨ret_string (l := []) HK.out.symm, Below.selfN _ _⟩
 have HR := Lib.hid hr
 by_cases hd : d = 1
 ·subst hd
  have HK := Lib.hid (show Num.text n 1 = Lib.itoa n by simp [Num.text, hr])
  clear hr
  go_enter Tryz.func85, Tryz.ntmps85
  go_wp2_with (first | (go_at_call 128; refine (right_to n 1 true HR.out (by omega) (by omega) (by omega) (by omega) _).mono ?_; rintro e' w1 ⟨rfl, k, rfl⟩) | (go_at_call 132; refine (itoa_any n (by omega) (by omega) _ (Env.drewN hE _)).mono ?_; rintro e' w1 ⟨rfl, hb⟩))
  go_ret
  exact ⟨ret_string HK.out.symm, Below.ofN hb⟩
 ·have hd1 : (d == 1) = false := by simpa using hd
  have HK := Lib.hid (show Num.text n d = Lib.itoa n ++ 47 :: Lib.itoa d by simp [Num.text, hr, hd])
  clear hr
  have l1 := Lib.itoa_length_le n (by omega) (by omega)
  have l2 := Lib.itoa_length_le d (by omega) (by omega)
  go_enter Tryz.func85, Tryz.ntmps85
  go_wp2_with (first | (go_at_call 128; refine (right_to n d true HR.out (by omega) (by omega) (by omega) (by omega) _).mono ?_; rintro e' w1 ⟨rfl, k, rfl⟩) | (go_at_call 132; with_reducible refine (itoa_any n (by omega) (by omega) _ (Env.drewN hE _)).mono ?_; rintro e' w1 ⟨rfl, hb⟩) | (go_at_call 132; with_reducible refine (itoa_any d (by omega) (by omega) _ (Env.below (Env.drewN hE _) (by assumption))).mono ?_; rintro e' w2 ⟨rfl, hb2⟩))
  go_ret
  refine ⟨?_, Below.next (Below.ofN hb) hb2⟩
  rw [HK.out]
  show Ending.returned (.string ((⟨(Lib.itoa n).toArray⟩ ++ ⟨[47].toArray⟩) ++ ⟨(Lib.itoa d).toArray⟩)) = _
  rw [str_app, str_app]
  simp
end
section
open Go.RowKit
namespace Num
def digs : List UInt8 := [48, 49, 50, 51, 52, 53, 54, 55, 56, 57]
theorem digs_iff (b : UInt8) : digs.contains b = isDigit b := by
 have : ∀ k : Fin 256, digs.contains (UInt8.ofNat k.val) = isDigit (UInt8.ofNat k.val) := by decide +kernel
 have e : b = UInt8.ofNat b.toNat := by simp
 rw [e]
 exact this ⟨b.toNat, b.toNat_lt⟩
theorem dropWhile_nil {α : Type} (p : α → Bool) (l : List α) : l.dropWhile p = [] ↔ ∀ b ∈ l, p b = true := by
 induction l with
 | nil => simp
 | cons c l ih =>
  simp only [List.dropWhile_cons, List.mem_cons, forall_eq_or_imp]
  split
  ·rename_i h; simp [h, ih]
  ·rename_i h; simp [h]
theorem mem_dropWhile {α : Type} {p : α → Bool} {l : List α} {b : α} (h : b ∈ l) (hb : p b = false) : b ∈ l.dropWhile p := by
 induction l with
 | nil => cases h
 | cons c l ih =>
  rw [List.dropWhile_cons]
  split
  ·rename_i hc
   rcases List.mem_cons.1 h with rfl | h
   ·rw [hb] at hc; cases hc
   ·exact ih h
  ·exact h
theorem trimS_nil (l cs : List UInt8) : Lib.trimS l cs = [] ↔ ∀ b ∈ l, cs.contains b = true := by
 unfold Lib.trimS Lib.trimLeftS Lib.trimRightS
 rw [dropWhile_nil]
 constructor
 ·intro h b hb
  cases hc : cs.contains b with
  | true => rfl
  | false =>
   have h1 : b ∈ l.reverse.dropWhile (cs.contains ·) := mem_dropWhile (by simpa using hb) hc
   have := h b (by simpa using h1)
   rw [hc] at this; exact this
 ·intro h b hb
  have h1 : b ∈ l.reverse.dropWhile (cs.contains ·) := by simpa using hb
  have : b ∈ l.reverse := (List.dropWhile_sublist _).mem h1
  exact h b (by simpa using this)
theorem digitVal_some {b : UInt8} (h : isDigit b = true) : Lib.digitVal b = some (b.toNat - 48) := by
 simp only [isDigit, Bool.and_eq_true, decide_eq_true_eq] at h
 unfold Lib.digitVal; rw [if_pos h]
theorem digitVal_none {b : UInt8} (h : isDigit b = false) : Lib.digitVal b = none := by
 unfold Lib.digitVal
 rw [if_neg]
 intro hc
 simp [isDigit, hc] at h
theorem decFrom_digits : ∀ (l : List UInt8) (acc : Nat), (∀ b ∈ l, isDigit b = true) → ∃ m, Lib.decFrom acc l = some m
 | [], acc, _ => ⟨acc, rfl⟩
 | c :: l, acc, h => by
  simp only [Lib.decFrom, digitVal_some (h c (by simp))]
  exact decFrom_digits l _ (fun b hb => h b (by simp [hb]))
theorem decFrom_none : ∀ (l : List UInt8) (acc : Nat), (∃ b ∈ l, isDigit b = false) → Lib.decFrom acc l = none
 | [], acc, h => by obtain ⟨b, hb, _⟩ := h; cases hb
 | c :: l, acc, h => by
  obtain ⟨b, hb, hd⟩ := h
  simp only [Lib.decFrom]
  cases hc : isDigit c with
  | false => rw [digitVal_none hc]
  | true =>
   rw [digitVal_some hc]
   refine decFrom_none l _ ⟨b, ?_, hd⟩
   rcases List.mem_cons.1 hb with rfl | hb
   ·rw [hc] at hd; cases hd
   ·exact hb
theorem nat?_cases (l : List UInt8) : (nat? l = none ∧ (l.length = 0 ∨ 10 < l.length ∨ (l.length ≤ 10 ∧ Lib.trimS l digs ≠ []))) ∨
  (∃ m : Nat, nat? l = some m ∧ l.length ≠ 0 ∧ l.length ≤ 10 ∧ Lib.trimS l digs = [] ∧ Lib.atoi l = some (m : Int) ∧ m < 10000000000) := by
 by_cases h0 : l.length = 0
 ·left
  refine ⟨?_, .inl h0⟩
  have : l = [] := List.length_eq_zero_iff.1 h0
  subst this; rfl
 by_cases h1 : 10 < l.length
 ·left
  exact ⟨by unfold nat?; rw [if_neg (by omega)], .inr (.inl h1)⟩
 by_cases h2 : Lib.trimS l digs = []
 ·right
  have hd : ∀ b ∈ l, isDigit b = true := fun b hb => by rw [← digs_iff]; exact (trimS_nil _ _).1 h2 b hb
  obtain ⟨m, hm⟩ := decFrom_digits l 0 hd
  have hn : Lib.decNat l = some m := by
   unfold Lib.decNat
   rw [if_neg (by simpa using fun e : l = [] => h0 (by rw [e]; rfl)), hm]
  refine ⟨m, by unfold nat?; rw [if_pos (by omega), hn], h0, by omega, h2, ?_, ?_⟩
  ·match l, h0 with
   | c :: r, _ =>
    have hc := hd c (by simp)
    simp only [isDigit, Bool.and_eq_true, decide_eq_true_eq] at hc
    simp only [Lib.atoi]
    rw [if_neg (by simp only [beq_iff_eq]; rintro rfl; simp at hc), if_neg (by simp only [beq_iff_eq]; rintro rfl; simp at hc), hn]
    rfl
  ·have := Lib.decFrom_lt l 0 m hm
   have hp : 10 ^ l.length ≤ 10 ^ 10 := Nat.pow_le_pow_right (by omega) (by omega)
   omega
 ·left
  refine ⟨?_, .inr (.inr ⟨by omega, h2⟩)⟩
  have : ∃ b ∈ l, isDigit b = false := by
   apply Decidable.byContradiction
   intro hc
   apply h2
   rw [trimS_nil]
   intro b hb
   rw [digs_iff]
   cases hd : isDigit b with
   | true => rfl
   | false => exact absurd ⟨b, hb, hd⟩ hc
  unfold nat?
  split
  ·unfold Lib.decNat
   split
   ·rfl
   ·exact decFrom_none l 0 this
  ·rfl
end Num
theorem trim_to (s : ByteArray) (T : List UInt8) (hs : s.size ≤ 9223372036854775807) (hT : Lib.trimS s.data.toList Num.digs = T) (w : World) :
  Calls Tryz.prog 49 #[.string s, .string ⟨#[48, 49, 50, 51, 52, 53, 54, 55, 56, 57]⟩] w fun e w' => e = .returned (.string ⟨T.toArray⟩) ∧ Below w.heap.size w w' := by
 have := trim_any s ⟨#[48, 49, 50, 51, 52, 53, 54, 55, 56, 57]⟩ hs (by decide) (by decide) w
 rw [show (⟨#[48, 49, 50, 51, 52, 53, 54, 55, 56, 57]⟩ : ByteArray).data.toList = Num.digs from rfl, hT] at this
 exact this
theorem natural_any (s : ByteArray) (hs : s.size ≤ 9223372036854775807) (w : World) :
  Calls Tryz.prog 95 #[.string s] w fun e w' => e = .returned (.tuple #[.int .i64 (((Num.nat? s.data.toList).getD 0 : Nat) : Int), .bool (Num.nat? s.data.toList).isSome]) ∧ Below w.heap.size w w' := by
 have hl : s.data.toList.length = s.size := rfl
 rcases Num.nat?_cases s.data.toList with ⟨hn, h⟩ | ⟨m, hn, h0, h1, h2, h3, h4⟩
 ·have HN := Lib.hid hn
  rw [hl] at h
  clear hl hn
  rcases h with h | h | ⟨h, ht⟩
  ·go_enter Tryz.func95, Tryz.ntmps95
   go_wp2
   go_ret2
   exact ⟨by rw [HN.out]; rfl, Below.self _⟩
  ·have hz : ((s.size : Int) == 0) = false := by simp; rintro rfl; simp at h
   have hne : ¬ s = ByteArray.empty := by rintro rfl; simp at h
   go_enter Tryz.func95, Tryz.ntmps95
   go_wp2
   go_ret2
   exact ⟨by rw [HN.out]; rfl, Below.self _⟩
  ·by_cases h0 : s.size = 0
   ·go_enter Tryz.func95, Tryz.ntmps95
    go_wp2
    go_ret2
    exact ⟨by rw [HN.out]; rfl, Below.self _⟩
   have hne : ¬ s = ByteArray.empty := by rintro rfl; simp at h0
   have hz : ((s.size : Int) == 0) = false := by simpa using hne
   obtain ⟨T, hT⟩ : ∃ T, Lib.trimS s.data.toList Num.digs = T := ⟨_, rfl⟩
   rw [hT] at ht
   have HT := Lib.hid hT
   clear hT
   have he : T.isEmpty = false := by simpa using ht
   go_enter Tryz.func95, Tryz.ntmps95
   go_wp2_with (first | (go_at_call 49; refine (trim_to s T hs HT.out _).mono ?_; rintro e' w1 ⟨rfl, hb⟩))
   go_ret2
   exact ⟨by rw [HN.out]; rfl, hb⟩
 ·have HN := Lib.hid hn
  have H2 := Lib.hid h2
  have H3 := Lib.hid h3
  rw [hl] at h0 h1
  have hne : ¬ s = ByteArray.empty := by rintro rfl; simp at h0
  have hz : ((s.size : Int) == 0) = false := by simpa using hne
  clear hl hn h2 h3
  go_enter Tryz.func95, Tryz.ntmps95
  go_wp2_with (first | (go_at_call 49; refine (trim_to s [] hs H2.out _).mono ?_; rintro e' w1 ⟨rfl, hb⟩) | (go_at_call 139; refine (atoi_any s m (by omega) H3.out _).mono ?_; rintro e' w2 ⟨rfl, hb2⟩))
  go_quiet (fail)
  go_wp2
  go_ret2
  exact ⟨by rw [HN.out]; rfl, Below.drewN (Below.next hb hb2) _⟩
end
section
open Go.RowKit
namespace Num
theorem indexByte_slash (l : List UInt8) : (Lib.indexByte l 47 = -1 ∧ l.takeWhile noSlash = l ∧ l.dropWhile noSlash = []) ∨
  (∃ i : Nat, Lib.indexByte l 47 = i ∧ i < l.length ∧ l.takeWhile noSlash = l.take i ∧ l.dropWhile noSlash = 47 :: l.drop (i + 1)) := by
 induction l with
 | nil => left; exact ⟨rfl, rfl, rfl⟩
 | cons b l ih =>
  by_cases hb : b = 47
  ·subst hb
   right
   exact ⟨0, by simp [Lib.indexByte], by simp, by simp [noSlash], by simp [noSlash]⟩
  ·have hn : noSlash b = true := by simpa [noSlash] using hb
   have hb0 : (b == 47) = false := by simpa using hb
   rcases ih with ⟨h1, h2, h3⟩ | ⟨i, h1, h2, h3, h4⟩
   ·left
    refine ⟨by simp [Lib.indexByte, hb0, h1], by simp [hn, h2], by simp [hn, h3]⟩
   ·right
    refine ⟨i + 1, ?_, by simp; omega, by simp [hn, h3], by simp [hn, h4]⟩
    have hne : ((i : Int) == -1) = false := by simp
    simp only [Lib.indexByte, hb0, h1, hne]
    simp
end Num
theorem extract_list (s : ByteArray) (a b : Nat) : s.extract a b = ⟨((s.data.toList.take b).drop a).toArray⟩ := by
 apply ByteArray.ext
 rw [ByteArray.data_extract]
 apply Array.ext'
 simp [Array.toList_extract, List.extract_eq_take_drop, List.drop_take]
theorem str_self (s : ByteArray) : (⟨s.data.toList.toArray⟩ : ByteArray) = s := by
 obtain ⟨⟨l⟩⟩ := s; rfl
theorem ret_cut {a b a' b' : ByteArray} {c c' : Bool} (h1 : a = a') (h2 : b = b') (h3 : c = c') : Ending.returned (.tuple #[.string a, .string b, .bool c]) = .returned (.tuple #[.string a', .string b', .bool c']) := by
 rw [h1, h2, h3]
theorem cutlite_any (s : ByteArray) (hs : s.size ≤ 9223372036854775807) (w : World) :
  Calls Tryz.prog 138 #[.string s, .string ⟨#[47]⟩] w fun e w' => e = .returned (.tuple #[.string ⟨(s.data.toList.takeWhile Num.noSlash).toArray⟩, .string ⟨((s.data.toList.dropWhile Num.noSlash).tail).toArray⟩, .bool (!(s.data.toList.dropWhile Num.noSlash).isEmpty)]) ∧ Below w.heap.size w w' := by
 have hl : s.data.toList.length = s.size := rfl
 have hI := Tryz.stringslite_Index_one s 47
 rcases Num.indexByte_slash s.data.toList with ⟨h1, h2, h3⟩ | ⟨i, h1, h2, h3, h4⟩
 ·rw [h1] at hI
  have HI := Lib.hid hI
  rw [h2, h3]
  clear hI h1 h2 h3
  go_enter Tryz.func138, Tryz.ntmps138
  go_wp2_with (first | (go_at_call 161; refine (HI.out _).mono ?_; rintro e' w1 ⟨rfl, rfl⟩))
  go_ret3
  exact ⟨ret_cut (str_self s).symm rfl rfl, Below.self _⟩
 ·rw [h1] at hI
  have HI := Lib.hid hI
  rw [h3, h4]
  rw [hl] at h2
  clear hI h1 h3 h4
  go_enter Tryz.func138, Tryz.ntmps138
  go_wp2_with (first | (go_at_call 161; refine (HI.out _).mono ?_; rintro e' w1 ⟨rfl, rfl⟩))
  go_quiet (fail)
  go_wp2
  go_ret3
  exact ⟨ret_cut (by rw [extract_list]; simp) (by rw [extract_list, ← hl, List.take_length]; rfl) rfl, Below.selfN _ _⟩
theorem cut_any (s : ByteArray) (hs : s.size ≤ 9223372036854775807) (w : World) :
  Calls Tryz.prog 94 #[.string s, .string ⟨#[47]⟩] w fun e w' => e = .returned (.tuple #[.string ⟨(s.data.toList.takeWhile Num.noSlash).toArray⟩, .string ⟨((s.data.toList.dropWhile Num.noSlash).tail).toArray⟩, .bool (!(s.data.toList.dropWhile Num.noSlash).isEmpty)]) ∧ Below w.heap.size w w' := by
 obtain ⟨A, hA⟩ : ∃ A, s.data.toList.takeWhile Num.noSlash = A := ⟨_, rfl⟩
 obtain ⟨B, hB⟩ : ∃ B, (s.data.toList.dropWhile Num.noSlash).tail = B := ⟨_, rfl⟩
 obtain ⟨c, hc⟩ : ∃ c, (!(s.data.toList.dropWhile Num.noSlash).isEmpty) = c := ⟨_, rfl⟩
 have hI := cutlite_any s hs w
 rw [hA, hB, hc] at hI ⊢
 have HI := Lib.hid hI
 clear hI hA hB hc
 go_enter Tryz.func94, Tryz.ntmps94
 go_wp2_with (first | (go_at_call 138; refine HI.out.mono ?_; rintro e' w1 ⟨rfl, hb⟩))
 go_ret3
 exact ⟨rfl, hb⟩
theorem cut_to (l A B : List UInt8) (c : Bool) (hA : l.takeWhile Num.noSlash = A) (hB : (l.dropWhile Num.noSlash).tail = B) (hc : (!(l.dropWhile Num.noSlash).isEmpty) = c) (hs : l.length ≤ 9223372036854775807) (w : World) :
  Calls Tryz.prog 94 #[.string ⟨l.toArray⟩, .string ⟨#[47]⟩] w fun e w' => e = .returned (.tuple #[.string ⟨A.toArray⟩, .string ⟨B.toArray⟩, .bool c]) ∧ Below w.heap.size w w' := by
 have := cut_any ⟨l.toArray⟩ (by simpa [ByteArray.size] using hs) w
 simp only [hA, hB, hc] at this
 exact this
theorem natural_to (l : List UInt8) (o : Option Nat) (ho : Num.nat? l = o) (hs : l.length ≤ 9223372036854775807) (w : World) :
  Calls Tryz.prog 95 #[.string ⟨l.toArray⟩] w fun e w' => e = .returned (.tuple #[.int .i64 ((o.getD 0 : Nat) : Int), .bool o.isSome]) ∧ Below w.heap.size w w' := by
 have := natural_any ⟨l.toArray⟩ (by simpa [ByteArray.size] using hs) w
 simp only [ho] at this
 exact this
theorem cutPrefix_to (s : ByteArray) (l : List UInt8) (neg : Bool) (h1 : Lib.trimPrefix s.data.toList [45] = l) (h2 : Lib.hasPrefix s.data.toList [45] = neg) (w : World) :
  Calls Tryz.prog 93 #[.string s, .string ⟨#[45]⟩] w fun e w' => e = .returned (.tuple #[.string ⟨l.toArray⟩, .bool neg]) ∧ Below w.heap.size w w' := by
 refine (Tryz.strings_CutPrefix s ⟨#[45]⟩ w).mono ?_
 rintro e w' ⟨rfl, rfl⟩
 rw [show (⟨#[45]⟩ : ByteArray).data.toList = [45] from rfl, h1, h2]
 exact ⟨rfl, Below.self _⟩
namespace Num
theorem nat?_lt {l : List UInt8} {m : Nat} (h : nat? l = some m) : m < 10000000000 := by
 rcases nat?_cases l with ⟨h1, _⟩ | ⟨k, h1, _, _, _, _, h2⟩
 ·rw [h1] at h; cases h
 ·rw [h1] at h; cases h; exact h2
theorem parse_cases (l : List UInt8) : ∃ (neg : Bool) (r : List UInt8), Lib.trimPrefix l [45] = r ∧ Lib.hasPrefix l [45] = neg ∧ parse l = parseU neg r ∧ r.length ≤ l.length := by
 cases l with
 | nil => exact ⟨false, [], rfl, rfl, rfl, Nat.le_refl _⟩
 | cons b r =>
  by_cases hb : b = 45
  ·subst hb
   exact ⟨true, r, by simp [Lib.trimPrefix, Lib.hasPrefix], by simp [Lib.hasPrefix], rfl, by simp⟩
  ·have hb0 : ((45 : UInt8) == b) = false := by simpa using fun h : (45 : UInt8) = b => hb h.symm
   have hp : Lib.hasPrefix (b :: r) [45] = false := by
    unfold Lib.hasPrefix
    simp only [List.isPrefixOf, hb0, Bool.false_and]
   refine ⟨false, b :: r, by unfold Lib.trimPrefix; rw [hp]; rfl, hp, ?_, Nat.le_refl _⟩
   unfold parse
   split
   ·rename_i h; simp only [List.cons.injEq] at h; exact absurd h.1 hb
   ·rfl
theorem parseU_cases (neg : Bool) (r : List UInt8) : ∃ (A B C : List UInt8) (c : Bool) (oA oC : Option Nat), r.takeWhile noSlash = A ∧ (r.dropWhile noSlash).tail = B ∧ (!(r.dropWhile noSlash).isEmpty) = c ∧
  C = (if c = true then B else [49]) ∧ nat? A = oA ∧ nat? C = oC ∧ A.length ≤ r.length ∧ C.length ≤ r.length + 1 ∧
  parseU neg r = (match oA, oC with
   | some n, some d => ((mk (if neg then -(n : Int) else n) d).1, (mk (if neg then -(n : Int) else n) d).2.1, decide ((mk (if neg then -(n : Int) else n) d).2.2 = 0))
   | _, _ => (0, 0, false)) := by
 refine ⟨_, _, _, _, _, _, rfl, rfl, rfl, rfl, rfl, rfl, (List.takeWhile_sublist _).length_le, ?_, ?_⟩
 ·split
  ·have := (List.dropWhile_sublist noSlash (l := r)).length_le
   simp only [List.length_tail]; omega
  ·simp
 ·unfold parseU lower
  cases r.dropWhile noSlash <;> rfl
end Num
theorem ret_parse {a b : Int} {p q : Bool} {P : Int × Int × Bool} (h : P = (a, b, q)) (h' : p = q) : Ending.returned (.tuple #[.int .i64 a, .int .i64 b, .bool p]) = .returned (.tuple #[.int .i64 P.1, .int .i64 P.2.1, .bool P.2.2]) := by
 rw [h, h']
theorem parse_any (s : ByteArray) (hs : s.size ≤ 9223372036854775806) (w : World) :
  Calls Tryz.prog 51 #[.string s] w fun e w' => e = .returned (.tuple #[.int .i64 (Num.parse s.data.toList).1, .int .i64 (Num.parse s.data.toList).2.1, .bool (Num.parse s.data.toList).2.2]) ∧ Below w.heap.size w w' := by
 have hl : s.data.toList.length = s.size := rfl
 obtain ⟨neg, r, h1, h2, h3, h4⟩ := Num.parse_cases s.data.toList
 obtain ⟨A, B, C, c, oA, oC, k1, k2, k3, k4, k5, k6, k7, k8, k9⟩ := Num.parseU_cases neg r
 rw [hl] at h4
 rw [k9] at h3
 have H1 := Lib.hid h1
 have H2 := Lib.hid h2
 have K1 := Lib.hid k1
 have K2 := Lib.hid k2
 have K3 := Lib.hid k3
 have K5 := Lib.hid k5
 have K6 := Lib.hid k6
 have HP := Lib.hid h3
 clear hl h1 h2 h3 k9 k1 k2 k3
 have e0 : s.size ≤ 9223372036854775807 := by omega
 cases oA with
 | none =>
  cases c
  ·simp only [Bool.false_eq_true, if_false] at k4
   first | (have k4 := k4.symm; subst k4; have _u := B) | subst k4
   go_enter Tryz.func51, Tryz.ntmps51
   go_wp2_with (first | (go_at_call 93; refine (cutPrefix_to s r _ H1.out H2.out _).mono ?_; rintro e' w1 ⟨rfl, hb⟩) | (go_at_call 94; refine (cut_to r A B _ K1.out K2.out K3.out (by omega) _).mono ?_; rintro e' w2 ⟨rfl, hb'⟩; have hb2 := Below.next hb hb'; clear hb') | (go_at_call 95; ((with_reducible refine (natural_to A _ K5.out (by omega) _).mono ?_); rintro e' w3 ⟨rfl, hb'⟩; have hb3 := Below.next hb2 hb'; clear hb')) | (go_at_call 95; ((with_reducible refine (natural_to [49] _ K6.out (by first | omega | (simp only [List.length_cons, List.length_nil]; omega)) _).mono ?_); rintro e' w4 ⟨rfl, hb'⟩; have hb4 := Below.next hb3 hb'; clear hb')))
   all_goals go_ret3
   all_goals exact ⟨ret_parse HP.out rfl, by assumption⟩
  ·simp only [if_true] at k4
   first | (have k4 := k4.symm; subst k4; have _u := B) | subst k4
   go_enter Tryz.func51, Tryz.ntmps51
   go_wp2_with (first | (go_at_call 93; refine (cutPrefix_to s r _ H1.out H2.out _).mono ?_; rintro e' w1 ⟨rfl, hb⟩) | (go_at_call 94; refine (cut_to r A B _ K1.out K2.out K3.out (by omega) _).mono ?_; rintro e' w2 ⟨rfl, hb'⟩; have hb2 := Below.next hb hb'; clear hb') | (go_at_call 95; ((with_reducible refine (natural_to A _ K5.out (by omega) _).mono ?_); rintro e' w3 ⟨rfl, hb'⟩; have hb3 := Below.next hb2 hb'; clear hb')) | (go_at_call 95; ((with_reducible refine (natural_to B _ K6.out (by first | omega | (simp only [List.length_cons, List.length_nil]; omega)) _).mono ?_); rintro e' w4 ⟨rfl, hb'⟩; have hb4 := Below.next hb3 hb'; clear hb')))
   all_goals go_ret3
   all_goals exact ⟨ret_parse HP.out rfl, by assumption⟩
 | some n =>
  have hn := Num.nat?_lt k5
  cases oC with
  | none =>
   cases c
   ·simp only [Bool.false_eq_true, if_false] at k4
    first | (have k4 := k4.symm; subst k4; have _u := B) | subst k4
    go_enter Tryz.func51, Tryz.ntmps51
    go_wp2_with (first | (go_at_call 93; refine (cutPrefix_to s r _ H1.out H2.out _).mono ?_; rintro e' w1 ⟨rfl, hb⟩) | (go_at_call 94; refine (cut_to r A B _ K1.out K2.out K3.out (by omega) _).mono ?_; rintro e' w2 ⟨rfl, hb'⟩; have hb2 := Below.next hb hb'; clear hb') | (go_at_call 95; ((with_reducible refine (natural_to A _ K5.out (by omega) _).mono ?_); rintro e' w3 ⟨rfl, hb'⟩; have hb3 := Below.next hb2 hb'; clear hb')) | (go_at_call 95; ((with_reducible refine (natural_to [49] _ K6.out (by first | omega | (simp only [List.length_cons, List.length_nil]; omega)) _).mono ?_); rintro e' w4 ⟨rfl, hb'⟩; have hb4 := Below.next hb3 hb'; clear hb')))
    all_goals go_ret3
    all_goals exact ⟨ret_parse HP.out rfl, by assumption⟩
   ·simp only [if_true] at k4
    first | (have k4 := k4.symm; subst k4; have _u := B) | subst k4
    go_enter Tryz.func51, Tryz.ntmps51
    go_wp2_with (first | (go_at_call 93; refine (cutPrefix_to s r _ H1.out H2.out _).mono ?_; rintro e' w1 ⟨rfl, hb⟩) | (go_at_call 94; refine (cut_to r A B _ K1.out K2.out K3.out (by omega) _).mono ?_; rintro e' w2 ⟨rfl, hb'⟩; have hb2 := Below.next hb hb'; clear hb') | (go_at_call 95; ((with_reducible refine (natural_to A _ K5.out (by omega) _).mono ?_); rintro e' w3 ⟨rfl, hb'⟩; have hb3 := Below.next hb2 hb'; clear hb')) | (go_at_call 95; ((with_reducible refine (natural_to B _ K6.out (by first | omega | (simp only [List.length_cons, List.length_nil]; omega)) _).mono ?_); rintro e' w4 ⟨rfl, hb'⟩; have hb4 := Below.next hb3 hb'; clear hb')))
    all_goals go_ret3
    all_goals exact ⟨ret_parse HP.out rfl, by assumption⟩
  | some d =>
   have hd := Num.nat?_lt k6
   cases neg with
   | true =>
    obtain ⟨x, y, z, hm⟩ : ∃ x y z, Num.mk (-(n : Int)) d = (x, y, z) := ⟨_, _, _, rfl⟩
    have HM := Lib.hid hm
    have HF := Lib.hid (show Num.parse s.data.toList = (x, y, decide (z = 0)) by rw [HP.out]; simp [hm])
    clear hm
    cases c
    ·simp only [Bool.false_eq_true, if_false] at k4
     first | (have k4 := k4.symm; subst k4; have _u := B) | subst k4
     go_enter Tryz.func51, Tryz.ntmps51
     go_wp2_with (first | (go_at_call 93; refine (cutPrefix_to s r _ H1.out H2.out _).mono ?_; rintro e' w1 ⟨rfl, hb⟩) | (go_at_call 94; refine (cut_to r A B _ K1.out K2.out K3.out (by omega) _).mono ?_; rintro e' w2 ⟨rfl, hb'⟩; have hb2 := Below.next hb hb'; clear hb') | (go_at_call 95; ((with_reducible refine (natural_to A _ K5.out (by omega) _).mono ?_); rintro e' w3 ⟨rfl, hb'⟩; have hb3 := Below.next hb2 hb'; clear hb')) | (go_at_call 95; ((with_reducible refine (natural_to [49] _ K6.out (by first | omega | (simp only [List.length_cons, List.length_nil]; omega)) _).mono ?_); rintro e' w4 ⟨rfl, hb'⟩; have hb4 := Below.next hb3 hb'; clear hb')) | (go_at_call 96; refine (make_to (-(n : Int)) d x y z HM.out (by omega) (by omega) (by omega) (by omega) _).mono ?_; rintro e' w5 ⟨rfl, k, rfl⟩))
     go_ret3
     exact ⟨ret_parse HF.out (by first | rfl | simp), Below.drewN hb4 _⟩
    ·simp only [if_true] at k4
     first | (have k4 := k4.symm; subst k4; have _u := B) | subst k4
     go_enter Tryz.func51, Tryz.ntmps51
     go_wp2_with (first | (go_at_call 93; refine (cutPrefix_to s r _ H1.out H2.out _).mono ?_; rintro e' w1 ⟨rfl, hb⟩) | (go_at_call 94; refine (cut_to r A B _ K1.out K2.out K3.out (by omega) _).mono ?_; rintro e' w2 ⟨rfl, hb'⟩; have hb2 := Below.next hb hb'; clear hb') | (go_at_call 95; ((with_reducible refine (natural_to A _ K5.out (by omega) _).mono ?_); rintro e' w3 ⟨rfl, hb'⟩; have hb3 := Below.next hb2 hb'; clear hb')) | (go_at_call 95; ((with_reducible refine (natural_to B _ K6.out (by first | omega | (simp only [List.length_cons, List.length_nil]; omega)) _).mono ?_); rintro e' w4 ⟨rfl, hb'⟩; have hb4 := Below.next hb3 hb'; clear hb')) | (go_at_call 96; refine (make_to (-(n : Int)) d x y z HM.out (by omega) (by omega) (by omega) (by omega) _).mono ?_; rintro e' w5 ⟨rfl, k, rfl⟩))
     go_ret3
     exact ⟨ret_parse HF.out (by first | rfl | simp), Below.drewN hb4 _⟩
   | false =>
    obtain ⟨x, y, z, hm⟩ : ∃ x y z, Num.mk (n : Int) d = (x, y, z) := ⟨_, _, _, rfl⟩
    have HM := Lib.hid hm
    have HF := Lib.hid (show Num.parse s.data.toList = (x, y, decide (z = 0)) by rw [HP.out]; simp [hm])
    clear hm
    cases c
    ·simp only [Bool.false_eq_true, if_false] at k4
     first | (have k4 := k4.symm; subst k4; have _u := B) | subst k4
     go_enter Tryz.func51, Tryz.ntmps51
     go_wp2_with (first | (go_at_call 93; refine (cutPrefix_to s r _ H1.out H2.out _).mono ?_; rintro e' w1 ⟨rfl, hb⟩) | (go_at_call 94; refine (cut_to r A B _ K1.out K2.out K3.out (by omega) _).mono ?_; rintro e' w2 ⟨rfl, hb'⟩; have hb2 := Below.next hb hb'; clear hb') | (go_at_call 95; ((with_reducible refine (natural_to A _ K5.out (by omega) _).mono ?_); rintro e' w3 ⟨rfl, hb'⟩; have hb3 := Below.next hb2 hb'; clear hb')) | (go_at_call 95; ((with_reducible refine (natural_to [49] _ K6.out (by first | omega | (simp only [List.length_cons, List.length_nil]; omega)) _).mono ?_); rintro e' w4 ⟨rfl, hb'⟩; have hb4 := Below.next hb3 hb'; clear hb')) | (go_at_call 96; refine (make_to (n : Int) d x y z HM.out (by omega) (by omega) (by omega) (by omega) _).mono ?_; rintro e' w5 ⟨rfl, k, rfl⟩))
     go_ret3
     exact ⟨ret_parse HF.out (by first | rfl | simp), Below.drewN hb4 _⟩
    ·simp only [if_true] at k4
     first | (have k4 := k4.symm; subst k4; have _u := B) | subst k4
     go_enter Tryz.func51, Tryz.ntmps51
     go_wp2_with (first | (go_at_call 93; refine (cutPrefix_to s r _ H1.out H2.out _).mono ?_; rintro e' w1 ⟨rfl, hb⟩) | (go_at_call 94; refine (cut_to r A B _ K1.out K2.out K3.out (by omega) _).mono ?_; rintro e' w2 ⟨rfl, hb'⟩; have hb2 := Below.next hb hb'; clear hb') | (go_at_call 95; ((with_reducible refine (natural_to A _ K5.out (by omega) _).mono ?_); rintro e' w3 ⟨rfl, hb'⟩; have hb3 := Below.next hb2 hb'; clear hb')) | (go_at_call 95; ((with_reducible refine (natural_to B _ K6.out (by first | omega | (simp only [List.length_cons, List.length_nil]; omega)) _).mono ?_); rintro e' w4 ⟨rfl, hb'⟩; have hb4 := Below.next hb3 hb'; clear hb')) | (go_at_call 96; refine (make_to (n : Int) d x y z HM.out (by omega) (by omega) (by omega) (by omega) _).mono ?_; rintro e' w5 ⟨rfl, k, rfl⟩))
     go_ret3
     exact ⟨ret_parse HF.out (by first | rfl | simp), Below.drewN hb4 _⟩
end
end Go.Proofs.YtpcneeekmhdhgaaGreatDoor
