/-
  The contracts of corbelref02.List, Same.
-/
import Derived.Test.YtlpkpkcfgchngaaGreatDoorRSize
import Derived.Test.YtlpkpkcfgchngaaGreatDoorRows2
import Derived.BigRegion
namespace Go.Proofs.YtlpkpkcfgchngaaGreatDoor
open Go.RowKit

theorem dat_list_drop {l : List Dat} {j : Nat} {x : Dat} (h : l[j]? = some x) : Dat.list (l.drop j) = Dat.pair x (Dat.list (l.drop (j + 1))) := by
  obtain ⟨hj, he⟩ := List.getElem?_eq_some_iff.1 h
  rw [← he, List.drop_eq_getElem_cons hj, Dat.list]

/-- What the loop of List keeps. -/
def RListI (w : World) (l : List Dat) (j : Nat) (W : World) : Prop :=
  ((∃ (k n d : Int) (s : ByteArray) (o : Option Addr) (len cap : Nat), Box5 W (w.heap.size + 1) 24 (.int .i64 k) (.int .i64 n) (.int .i64 d) (.string s) (.slice o len cap) ∧ RepD (gap W w.heap.size (w.heap.size + 2)) W.heap.size (Dat.list (l.drop j)) (.agg #[.int .i64 k, .int .i64 n, .int .i64 d, .string s, .slice o len cap])) ∧ Box5 W w.heap.size 24 (.int .i64 0) (.int .i64 0) (.int .i64 0) (.string ⟨#[]⟩) (.slice none 0 0)) ∧ Below w.heap.size w W ∧ w.heap.size + 2 ≤ W.heap.size

theorem RListI.drew {w W : World} {l : List Dat} {j : Nat} (h : RListI w l j W) : RListI w l j W.drew := by
  obtain ⟨⟨⟨k, n, d, s, o, len, cap, b1, hrep⟩, b0⟩, hb, hS⟩ := h
  exact ⟨⟨⟨k, n, d, s, o, len, cap, b1, RepD.holed (W' := W.drew) hrep fun _ _ _ _ h => h⟩, b0⟩, hb.drew, hS⟩

set_option maxHeartbeats 2000000 in
set_option maxRecDepth 100000 in
theorem rlist_any (l : List Dat) (sl : Value) (B : Nat) (w : World) (hv : RepS w B l sl) (hB : B ≤ w.heap.size) :
    Calls Tryz.prog 22 #[sl] w (DatPost (Dat.list l) w) := by
  obtain ⟨o, len, cap, rfl, hl, hcap, hmax, hc⟩ := hv
  have HL := Lib.hid hl
  have HC := Lib.hid hc
  clear hl hc
  go_enter Tryz.func22, Tryz.ntmps22
  go_wp2_with fail
  go_loopg [4] (len + 1) (fun g i wr => ∃ j : Nat, g = j + 1 ∧ j ≤ len ∧ i = .int .i64 ((j : Int) - 1) ∧ RListI w l j wr)
  case atStart =>
    refine ⟨len, rfl, Nat.le_refl _, rfl, ⟨⟨4, 0, 0, ⟨#[]⟩, none, 0, 0, ?_, ?_⟩, ?_⟩, ?_, ?_⟩
    · have := Box5.new (w.alloc (.cells #[.int .i64 0, .int .i64 0, .int .i64 0, .string ⟨#[]⟩, .slice none 0 0] 24)) 24 (.int .i64 4) (.int .i64 0) (.int .i64 0) (.string ⟨#[]⟩) (.slice none 0 0)
      rwa [World.size_alloc] at this
    · rw [List.drop_of_length_le (by rw [← HL.out]; exact Nat.le_refl _)]
      exact RepD.shut (by omega) (by omega) (by omega) (by decide) ⟨none, 0, 0, rfl, rfl, by omega, by omega, rfl, rfl⟩
    · exact (Box5.new w _ _ _ _ _ _).alloc _
    · exact ((Below.refl _ _).alloc (Nat.le_refl _) _).alloc (by simp) _
    · simp
  case round =>
    obtain ⟨j, rfl, hj, rfl, ⟨⟨ok, on, od, os, oo, ol, oc, b1, hrep⟩, b0⟩, hb, hS⟩ := hrel
    obtain ⟨q0, q1, q2, q3, q4⟩ := b1.cells
    obtain ⟨z0, z1, z2, z3, z4⟩ := b1.free
    have g2 := b1.lt
    have HB := Lib.hid hb
    have HREP := Lib.hid hrep
    have B1 := Lib.hid b1
    have B0 := Lib.hid b0
    clear hb hrep b1
    by_cases hjl : 0 < j
    · obtain ⟨i, rfl⟩ : ∃ i, j = i + 1 := ⟨j - 1, by omega⟩
      obtain ⟨x, hx⟩ : ∃ x, l[i]? = some x := ⟨_, List.getElem?_eq_getElem (by rw [← HL.out]; omega)⟩
      obtain ⟨b, off, k', n', d', s', l', o', len', cap', ho, hxe, e0, e1, e2, e3, e4, er⟩ := part_at2 HC.out (HB.out.mono hB) hx
      subst ho hxe
      have ER := Lib.hid er
      have HX := Lib.hid hx
      clear hx er b0
      go_wp2_with fail
      go_region
      all_goals go_wp2_with fail
      all_goals go_roundg (i + 1)
      case measure => omega
      case rel =>
        refine ⟨i, rfl, by omega, rfl, RListI.drew ⟨⟨⟨_, _, _, _, _, _, _, (B1.out.set _ _ _ _ _).alloc _, ?_⟩, ?_⟩, ?_, ?_⟩⟩
        · rw [dat_list_drop HX.out]
          exact pair_made (by omega) (by omega) ((ER.out.dig hB).wider (by omega)) HREP.out _
        · exact (show Box5 (set5 wr (w.heap.size + 1) _ _ _ _ _) w.heap.size _ _ _ _ _ _ from (set5_heap _ _ _ _ _ _ _ (by omega)).trans B0.out).alloc _
        · exact (HB.out.trans (set5_below _ _ _ _ _ _ _ _ (by omega))).alloc (by rw [set5_size]; omega) _
        · simp; omega
    · obtain rfl : j = 0 := by omega
      obtain ⟨y0, y1, y2, y3, y4⟩ := b0.free
      obtain ⟨p0, p1, p2, p3, p4⟩ := b0.cells
      go_wp2_with fail
      have bN := b0.set (.int .i64 ok) (.int .i64 on) (.int .i64 od) (.string os) (.slice oo ol oc)
      obtain ⟨r0, r1, r2, r3, r4⟩ := bN.cells
      refine bodyPost_ret (v := .agg #[.int .i64 ok, .int .i64 on, .int .i64 od, .string os, .slice oo ol oc]) (by simp [results, Tryz.results22, go_sem, r0, r1, r2, r3, r4]) rfl ⟨_, rfl, ?_, ?_⟩
      · refine RepD.wider (B := wr.heap.size) ?_ (by simp)
        exact HREP.out.closed fun c o u hc h => by
          show (set5 wr w.heap.size _ _ _ _ _).cell? ⟨c, o, none⟩ = _
          rw [set5_other _ _ _ _ _ _ _ (by omega)]; exact h
      · exact HB.out.trans (set5_below wr w.heap.size w.heap.size _ _ _ _ _ (Nat.le_refl _))
end Go.Proofs.YtlpkpkcfgchngaaGreatDoor
