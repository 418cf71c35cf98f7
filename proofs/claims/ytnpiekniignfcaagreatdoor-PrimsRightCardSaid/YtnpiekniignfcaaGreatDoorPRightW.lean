/-
  The walk of PrimsRight.
-/
import Derived.Test.YtnpiekniignfcaaGreatDoorLaw05
import Derived.Test.YtnpiekniignfcaaGreatDoorFoldOk
import Derived.Test.YtnpiekniignfcaaGreatDoorWalks2
namespace Go.Proofs.YtnpiekniignfcaaGreatDoor
open Go.RowKit

/-- Two boxes of five cells that stay while nothing below turns. -/
def TwoB (w : World) (b6 b9 : Nat) (t6 t9 : TypeId) (c0 c1 c2 c3 c4 d0 d1 d2 d3 d4 : Value) (W : World) : Prop := Below w.heap.size w W ∧ Box5 W b6 t6 c0 c1 c2 c3 c4 ∧ Box5 W b9 t9 d0 d1 d2 d3 d4
theorem TwoB.next {w W W' : World} {b6 b9 : Nat} {t6 t9 : TypeId} {c0 c1 c2 c3 c4 d0 d1 d2 d3 d4 : Value} (h : TwoB w b6 b9 t6 t9 c0 c1 c2 c3 c4 d0 d1 d2 d3 d4 W) (hb : Below W.heap.size W W') : TwoB w b6 b9 t6 t9 c0 c1 c2 c3 c4 d0 d1 d2 d3 d4 W' :=
  ⟨Below.next h.1 hb, (hb.block _ h.2.1.lt).trans h.2.1, (hb.block _ h.2.2.lt).trans h.2.2⟩

theorem allD_take_succ {p : Dat → Bool} {l : List Dat} {j : Nat} {x : Dat} (hx : l[j]? = some x) : (l.take (j + 1)).all p = ((l.take j).all p && p x) := by
  rw [List.take_add_one, hx]; simp

theorem facts_none (n : Int) (h : Prims.has n = false) : (Prims.facts n).folds = false := by
  have : ¬ (0 ≤ n ∧ n ≤ 30) := by simpa [Prims.has] using h
  rw [Prims.facts, if_neg this]; rfl

/-- What Fold's answer says of the law. -/
theorem fold_cases (n : Int) (l : List Dat) (X : Dat) (z : Int) (b : Bool) (h : Prims.fold n l = (X, z, b)) (ha : Dat.allL l ≤ 1000) :
    (b = false ∧ z = 0 ∧ ((Prims.facts n).folds = false ∨ (l.all fun x => Dat.right x 0) = false)) ∨ (b = true ∧ Prims.takes n l.length = false ∧ z = 2) ∨ (b = true ∧ Prims.takes n l.length = true ∧ z ≠ 2 ∧ (z = 0 → Dat.right X 0 = true)) := by
  unfold Prims.fold at h
  split at h
  · rename_i hc
    simp only [Bool.and_eq_true] at hc
    split at h
    · rename_i ht
      simp only [Prod.mk.injEq] at h
      obtain ⟨rfl, rfl, rfl⟩ := h
      have := does_ok n l (List.all_eq_true.1 hc.2.2) ht hc.1 hc.2.1 ha
      exact .inr (.inr ⟨rfl, ht, this⟩)
    · rename_i ht
      simp only [Prod.mk.injEq] at h
      obtain ⟨_, rfl, rfl⟩ := h
      exact .inr (.inl ⟨rfl, by simpa using ht, rfl⟩)
  · rename_i hc
    simp only [Prod.mk.injEq] at h
    obtain ⟨_, rfl, rfl⟩ := h
    refine .inl ⟨rfl, rfl, ?_⟩
    cases hh : Prims.has n with
    | false => exact .inl (facts_none n hh)
    | true =>
      rw [hh] at hc
      cases hf : (Prims.facts n).folds with
      | false => exact .inl rfl
      | true =>
        rw [hf] at hc
        simp only [Bool.true_and] at hc
        exact .inr (Bool.eq_false_iff.2 hc)

set_option maxHeartbeats 4000000 in
set_option maxRecDepth 100000 in
theorem primsRight_walk (n : Int) (h0 : -9223372036854775808 ≤ n) (h1 : n ≤ 9223372036854775807) (l : List Dat) (sl : Value) (w : World) (hv : RepS w w.heap.size l sl) :
    Calls Tryz.prog 4 #[.int .i64 n, sl] w fun e w' => e = .returned (.bool true) ∧ Below w.heap.size w w' := by
  have HS := Lib.hid hv
  obtain ⟨o, len, cap, rfl, hl, hcap, hmax, hc⟩ := hv
  have HC := Lib.hid hc
  have HL := Lib.hid hl
  clear hc hl
  obtain ⟨⟨X, z, b⟩, hR⟩ : ∃ R, Prims.fold n l = R := ⟨_, rfl⟩
  have HR := Lib.hid hR
  clear hR
  obtain ⟨c, hc⟩ : ∃ c, Prims.has n = c := ⟨_, rfl⟩
  obtain ⟨f0, f1, f2, f3, f4, hF⟩ : ∃ f0 f1 f2 f3 f4, Prims.facts n = ⟨f0, f1, f2, f3, f4⟩ := ⟨_, _, _, _, _, rfl⟩
  have HFC := Lib.hid (fun W => facts_to n f0 f1 f2 f3 f4 c hF hc h0 h1 W)
  obtain ⟨t, ht⟩ : ∃ t, Prims.takes n l.length = t := ⟨_, rfl⟩
  have HTC := Lib.hid (fun W => takes_any n len h0 h1 W)
  rw [HL.out, ht] at HTC
  rw [← HL.out] at HTC
  obtain ⟨r, hr⟩ : ∃ r, Dat.fewB l 100 = r := ⟨_, rfl⟩
  have HRR := Lib.hid hr
  have HCS := Lib.hid (fun (ha : Dat.allL l ≤ 1000) => fold_cases n l X z b HR.out ha)
  rw [hF, ht] at HCS
  clear hr hc hF ht
  go_enter Tryz.func4, Tryz.ntmps4
  go_wp2_with fail
  refine (awake5_any w).mono ?_
  rintro e1 w1 ⟨rfl, hb1⟩
  have HB1 := Lib.hid hb1
  have hs1 := hb1.size
  clear hb1
  go_wp2_with fail
  refine (few5_any l _ 100 w.heap.size w1 (HS.out.kept HB1.out) hs1 (by omega) (by omega) r HRR.out).mono ?_
  rintro e1 w2 ⟨rfl, hb2⟩
  have HB2 := Lib.hid (Below.next HB1.out hb2)
  have hs2 := HB2.out.size
  clear hb2
  cases r with
  | false =>
    go_wp2_with fail
    go_ret
    exact ⟨rfl, HB2.out⟩
  | true =>
    have HCA := Lib.hid (HCS.out (by
      have := HRR.out
      simp only [Dat.fewB, Bool.and_eq_true, decide_eq_true_eq] at this
      omega))
    have HF1 := Lib.hid (fold_any n h0 h1 l _ w.heap.size w2 (HS.out.kept HB2.out) hs2)
    rw [HR.out] at HF1
    go_wp2_with fail
    refine HF1.out.mono ?_
    rintro e1 w3 ⟨k1, n1, d1, s1, o1, len1, cap1, rfl, hrep1, hb3⟩
    have HB3 := Lib.hid (Below.next HB2.out hb3)
    have hs3 := HB3.out.size
    have HREP1 := Lib.hid (hrep1.wider hb3.size)
    clear hb3 hrep1 HF1
    dsimp only
    go_wp2_with fail
    refine (HFC.out _).mono ?_
    rintro e1 w4 ⟨rfl, hb4⟩
    have HX1 := Lib.hid (show Box5 w4 w3.heap.size 26 (.int .i64 k1) (.int .i64 n1) (.int .i64 d1) (.string s1) (.slice o1 len1 cap1) from (hb4.block _ (by simp)).trans (Box5.new _ _ _ _ _ _ _))
    have HB4 := Lib.hid (Below.next (HB3.out.alloc hs3 _) hb4)
    have hs4 := HB4.out.size
    have hs34 : w3.heap.size < w4.heap.size := HX1.out.lt
    have HREP4 := Lib.hid (HREP1.out.kept (one_below hb4))
    obtain ⟨H4, hH4⟩ : ∃ H4, w4.heap.size = H4 := ⟨_, rfl⟩
    have HT0 := Lib.hid (show TwoB w w3.heap.size w4.heap.size 26 32 (.int .i64 k1) (.int .i64 n1) (.int .i64 d1) (.string s1) (.slice o1 len1 cap1) (.string f0) (.int .i64 f1) (.int .i64 f2) (.bool f3) (.bool f4) (w4.alloc (.cells #[.string f0, .int .i64 f1, .int .i64 f2, .bool f3, .bool f4] 32)) from
      ⟨HB4.out.alloc hs4 _, HX1.out.alloc _, Box5.new _ _ _ _ _ _ _⟩)
    have HREP5 := Lib.hid (show RepD (w4.alloc (.cells #[.string f0, .int .i64 f1, .int .i64 f2, .bool f3, .bool f4] 32)) w3.heap.size X (.agg #[.int .i64 k1, .int .i64 n1, .int .i64 d1, .string s1, .slice o1 len1 cap1]) from HREP4.out.kept ((Below.refl _ _).alloc (by omega) _))
    clear hb4 hH4
    go_wp2_with fail
    go_loopg [11, 12] len (fun g a i wr => ∃ (j : Nat) (q : Bool), g = len - j ∧ j ≤ len ∧ a = .bool q ∧ i = .int .i64 j ∧ Hid ((l.take j).all (fun x => Dat.right x 0) = q) ∧ Hid (RepD wr w3.heap.size X (.agg #[.int .i64 k1, .int .i64 n1, .int .i64 d1, .string s1, .slice o1 len1 cap1])) ∧ TwoB w w3.heap.size w4.heap.size 26 32 (.int .i64 k1) (.int .i64 n1) (.int .i64 d1) (.string s1) (.slice o1 len1 cap1) (.string f0) (.int .i64 f1) (.int .i64 f2) (.bool f3) (.bool f4) wr)
    case atStart => exact ⟨0, true, rfl, by omega, rfl, rfl, Lib.hid (by simp), HREP5, HT0.out⟩
    case round =>
      obtain ⟨j, q, rfl, hj, rfl, rfl, HA, HRW, htw⟩ := hrel
      have HTW := Lib.hid htw
      have hsz := htw.1.size
      have hlt6 := htw.2.1.lt
      have hlt9 := htw.2.2.lt
      obtain ⟨y0, y1, y2, y3, y4⟩ := htw.2.1.cells
      obtain ⟨z0, z1, z2, z3, z4⟩ := htw.2.2.cells
      clear htw
      by_cases hjl : j < len
      · obtain ⟨x, hx⟩ : ∃ x, l[j]? = some x := ⟨_, List.getElem?_eq_getElem (by rw [← HL.out]; exact hjl)⟩
        obtain ⟨b1, off1, k2, n2, d2, s2, l2, o2, len2, cap2, ho1, hx1, e0, e1, e2, e3, e4, er⟩ := part_at2 HC.out HTW.out.1 hx
        subst ho1 hx1
        obtain ⟨p, hp⟩ : ∃ p, Dat.right (.mk k2 n2 d2 s2 l2) 0 = p := ⟨_, rfl⟩
        have HP := Lib.hid hp
        have HX := Lib.hid ((allD_take_succ (p := fun x => Dat.right x 0) hx))
        have ER := Lib.hid er
        have hbl := cell_lt e0
        clear hx hp er
        cases q with
        | true =>
          go_wp2_with fail
          refine (dright_to _ _ w.heap.size wr p HP.out ER.out hsz).mono ?_
          rintro e1 w5 ⟨rfl, hb5⟩
          go_wp2_with fail
          go_roundg (len - (j + 1))
          case measure => omega
          case rel => exact ⟨j + 1, p, rfl, by omega, rfl, by go_num, Lib.hid (by rw [HX.out, HA.out, ← HP.out]; rfl), Lib.hid (HRW.out.kept (hb5.mono (by omega))), HTW.out.next hb5⟩
        | false =>
          go_wp2_with fail
          go_roundg (len - (j + 1))
          case measure => omega
          case rel => exact ⟨j + 1, false, rfl, by omega, rfl, by go_num, Lib.hid (by rw [HX.out, HA.out]; rfl), HRW, HTW.out⟩
      · obtain rfl : len = j := by omega
        have HAL := Lib.hid (show (l.all fun x => Dat.right x 0) = q by rw [← HA.out, List.take_of_length_le (by rw [← HL.out]; exact Nat.le_refl _)])
        rw [HAL.out] at HCA
        clear HA
        cases b with
        | false =>
          obtain ⟨rfl, hff⟩ : z = 0 ∧ (f4 = false ∨ q = false) := by
            rcases HCA.out with ⟨_, h2, h3⟩ | ⟨h, _⟩ | ⟨h, _⟩
            · exact ⟨h2, h3⟩
            · cases h
            · cases h
          have HFF := Lib.hid hff
          clear hff
          cases f4 <;> cases q
          all_goals first
            | (exact absurd HFF.out (by decide))
            | (go_wp2_with fail; go_ret; exact ⟨rfl, HTW.out.1⟩)
            | fail
        | true =>
          go_wp2_with fail
          refine (HTC.out _).mono ?_
          rintro e1 w5 ⟨rfl, hb5⟩
          have HB5 := Lib.hid (HTW.out.next hb5)
          have HRX := Lib.hid (HRW.out.kept (hb5.mono (by omega)))
          have hs5 := HB5.out.1.size
          have hs35 := HB5.out.2.1.lt
          clear hb5 y0 y1 y2 y3 y4 z0 z1 z2 z3 z4 hlt6 hlt9
          obtain ⟨y0, y1, y2, y3, y4⟩ := HB5.out.2.1.cells
          cases t with
          | false =>
            obtain rfl : z = 2 := by
              rcases HCA.out with ⟨h, _⟩ | ⟨_, _, h⟩ | ⟨_, h, _⟩
              · cases h
              · exact h
              · cases h
            go_wp2_with fail
            go_ret
            exact ⟨rfl, HB5.out.1⟩
          | true =>
            obtain ⟨hz2, hz0⟩ : z ≠ 2 ∧ (z = 0 → Dat.right X 0 = true) := by
              rcases HCA.out with ⟨h, _⟩ | ⟨_, h, _⟩ | ⟨_, _, h⟩
              · cases h
              · cases h
              · exact h
            have e2 : (z != 2) = true := by simpa using hz2
            have HZ := Lib.hid hz0
            clear hz0
            by_cases hz : z = 0
            · subst hz
              have HZX := Lib.hid (HZ.out rfl)
              clear HZ
              go_wp2_with fail
              refine (dright_to X _ w3.heap.size w5 true HZX.out HRX.out (by omega)).mono ?_
              rintro e1 w6 ⟨rfl, hb6⟩
              go_wp2_with fail
              go_ret
              exact ⟨rfl, Below.next HB5.out.1 hb6⟩
            · have e3 : (z != 0) = true := by simpa using hz
              go_wp2_with fail
              go_ret
              exact ⟨rfl, HB5.out.1⟩
end Go.Proofs.YtnpiekniignfcaaGreatDoor
