/-
  The walks of PrimsFolds, PrimsFacts.
-/
import Derived.Test.YtnpiekniignfcaaGreatDoorLaw05
import Derived.Test.YtnpiekniignfcaaGreatDoorRFold
import Derived.Test.YtnpiekniignfcaaGreatDoorRAlike
namespace Go.Proofs.YtnpiekniignfcaaGreatDoor
open Go.RowKit

set_option maxHeartbeats 4000000 in
set_option maxRecDepth 100000 in
theorem primsFolds_walk (n : Int) (h0 : -9223372036854775808 ≤ n) (h1 : n ≤ 9223372036854775807) (l : List Dat) (sl : Value) (w : World) (hv : RepS w w.heap.size l sl) :
    Calls Tryz.prog 3 #[.int .i64 n, sl] w fun e w' => e = .returned (.bool true) ∧ Below w.heap.size w w' := by
  have HS := Lib.hid hv
  obtain ⟨o, len, cap, rfl, hl, hcap, hmax, hc⟩ := hv
  clear hc hl
  obtain ⟨⟨X, z, b⟩, hR⟩ : ∃ R, Prims.fold n l = R := ⟨_, rfl⟩
  have HR := Lib.hid hR
  clear hR
  obtain ⟨r, hr⟩ : ∃ r, Dat.fewB l 500 = r := ⟨_, rfl⟩
  have HRR := Lib.hid hr
  clear hr
  go_enter Tryz.func3, Tryz.ntmps3
  go_wp2_with fail
  refine (awake5_any w).mono ?_
  rintro e1 w1 ⟨rfl, hb1⟩
  have HB1 := Lib.hid hb1
  have hs1 := hb1.size
  clear hb1
  go_wp2_with fail
  refine (few5_any l _ 500 w.heap.size w1 (HS.out.kept HB1.out) hs1 (by omega) (by omega) r HRR.out).mono ?_
  rintro e1 w2 ⟨rfl, hb2⟩
  have HB2 := Lib.hid (Below.next HB1.out hb2)
  have hs2 := HB2.out.size
  clear hb2
  cases r with
  | false =>
    go_wp2_with fail
    go_ret
    exact ⟨rfl, HB2.out⟩
  | true =>
    have HF1 := Lib.hid (fold_any n h0 h1 l _ w.heap.size w2 (HS.out.kept HB2.out) hs2)
    rw [HR.out] at HF1
    go_wp2_with fail
    refine HF1.out.mono ?_
    rintro e1 w3 ⟨k1, n1, d1, s1, o1, len1, cap1, rfl, hrep1, hb3⟩
    have HB3 := Lib.hid (Below.next HB2.out hb3)
    have hs3 := HB3.out.size
    have HREP1 := Lib.hid (hrep1.wider hb3.size)
    clear hb3 hrep1 HF1
    dsimp only
    have HF2 := Lib.hid (fun W (hb : Below w.heap.size w W) => rfold_any n h0 h1 l _ w.heap.size W (HS.out.kept hb) hb.size)
    rw [HR.out] at HF2
    go_wp2_with fail
    refine (HF2.out _ (HB3.out.alloc hs3 _)).mono ?_
    rintro e1 w4 ⟨k2, n2, d2, s2, o2, len2, cap2, rfl, hrep2, hb4⟩
    have HX1 := Lib.hid (show Box5 w4 w3.heap.size 26 (.int .i64 k1) (.int .i64 n1) (.int .i64 d1) (.string s1) (.slice o1 len1 cap1) from (hb4.block _ (by simp)).trans (Box5.new _ _ _ _ _ _ _))
    have HB4 := Lib.hid (Below.next (HB3.out.alloc hs3 _) hb4)
    have hs4 := HB4.out.size
    have HREP2 := Lib.hid (hrep2.wider hb4.size)
    have HREP3 := Lib.hid ((HREP1.out.kept (one_below hb4)).wider (Nat.le_trans (by simp) hb4.size))
    obtain ⟨q0, q1, q2, q3, q4⟩ := HX1.out.cells
    have hlt := HX1.out.lt
    clear hb4 hrep2 HF2
    dsimp only
    have HA := Lib.hid (fun Y => ralike_to X X _ _ w4.heap.size (w4.alloc Y) true (Dat.alike_self X) (HREP3.out.kept ((Below.refl _ _).alloc (Nat.le_refl _) _)) (HREP2.out.kept ((Below.refl _ _).alloc (Nat.le_refl _) _)) (by simp))
    go_wp2_with fail
    refine (HA.out _).mono ?_
    rintro e1 w5 ⟨rfl, hb5⟩
    go_wp2_with fail
    go_ret
    exact ⟨rfl, Below.next (HB4.out.alloc hs4 _) hb5⟩

set_option maxHeartbeats 4000000 in
set_option maxRecDepth 100000 in
theorem primsFacts_walk (n k : Int) (s : ByteArray) (h0 : -9223372036854775808 ≤ n) (h1 : n ≤ 9223372036854775807) (w : World) :
    Calls Tryz.prog 7 #[.int .i64 n, .string s, .int .i64 k] w fun e w' => e = .returned (.bool true) ∧ Below w.heap.size w w' := by
  obtain ⟨b, hb⟩ : ∃ b, Prims.has n = b := ⟨_, rfl⟩
  obtain ⟨f0, f1, f2, f3, f4, hF⟩ : ∃ f0 f1 f2 f3 f4, Prims.facts n = ⟨f0, f1, f2, f3, f4⟩ := ⟨_, _, _, _, _, rfl⟩
  have HF1 := Lib.hid (fun W => facts_to n f0 f1 f2 f3 f4 b hF hb h0 h1 W)
  have HF2 := Lib.hid (fun W => rfacts_to n f0 f1 f2 f3 f4 b hF hb W)
  obtain ⟨⟨x, y⟩, hxy⟩ : ∃ p, Prims.find s = p := ⟨_, rfl⟩
  have HG1 := Lib.hid (fun W => find_any s W)
  have HG2 := Lib.hid (fun W => rfind_any s W)
  rw [hxy] at HG1 HG2
  obtain ⟨t, ht⟩ : ∃ t, Prims.takes n k = t := ⟨_, rfl⟩
  have HT1 := Lib.hid (fun W => takes_any n k h0 h1 W)
  have HT2 := Lib.hid (fun W => rtakes_any n k h0 h1 W)
  rw [ht] at HT1 HT2
  clear hb hF hxy ht
  go_enter Tryz.func7, Tryz.ntmps7
  go_wp2_with fail
  refine (awake5_any w).mono ?_
  rintro e1 w1 ⟨rfl, hb1⟩
  have HB1 := Lib.hid hb1
  have hs1 := hb1.size
  clear hb1
  go_wp2_with fail
  refine (HF1.out _).mono ?_
  rintro e1 w2 ⟨rfl, hb2⟩
  have HB2 := Lib.hid (Below.next HB1.out hb2)
  have hs2 := HB2.out.size
  clear hb2
  go_wp2_with fail
  refine (HF2.out _).mono ?_
  rintro e1 w3 ⟨rfl, hb3⟩
  have HX3 := Lib.hid (show Box5 w3 w2.heap.size 32 (.string f0) (.int .i64 f1) (.int .i64 f2) (.bool f3) (.bool f4) from (hb3.block _ (by simp)).trans (Box5.new _ _ _ _ _ _ _))
  have HB3 := Lib.hid (Below.next (HB2.out.alloc hs2 _) hb3)
  have hs3 := HB3.out.size
  have hlt3 : w2.heap.size < w3.heap.size := HX3.out.lt
  clear hb3
  go_wp2_with fail
  refine (HG1.out _).mono ?_
  rintro e1 w4 ⟨rfl, hb4⟩
  have HX4 := Lib.hid (show Box5 w4 w2.heap.size 32 (.string f0) (.int .i64 f1) (.int .i64 f2) (.bool f3) (.bool f4) from (hb4.block _ (by simp; omega)).trans (HX3.out.alloc _))
  have HY4 := Lib.hid (show Box5 w4 w3.heap.size 43 (.string f0) (.int .i64 f1) (.int .i64 f2) (.bool f3) (.bool f4) from (hb4.block _ (by simp)).trans (Box5.new _ _ _ _ _ _ _))
  have HB4 := Lib.hid (Below.next (HB3.out.alloc hs3 _) hb4)
  have hs4 := HB4.out.size
  clear hb4
  go_wp2_with fail
  refine (HG2.out _).mono ?_
  rintro e1 w5 ⟨rfl, hb5⟩
  have HX5 := Lib.hid (show Box5 w5 w2.heap.size 32 (.string f0) (.int .i64 f1) (.int .i64 f2) (.bool f3) (.bool f4) from (hb5.block _ HX4.out.lt).trans HX4.out)
  have HY5 := Lib.hid (show Box5 w5 w3.heap.size 43 (.string f0) (.int .i64 f1) (.int .i64 f2) (.bool f3) (.bool f4) from (hb5.block _ HY4.out.lt).trans HY4.out)
  have HB5 := Lib.hid (Below.next HB4.out hb5)
  clear hb5
  obtain ⟨q0, q1, q2, q3, q4⟩ := HX5.out.cells
  obtain ⟨y0, y1, y2, y3, y4⟩ := HY5.out.cells
  have hltX := HX5.out.lt
  have hltY := HY5.out.lt
  go_wp2_with fail
  refine (HT1.out _).mono ?_
  rintro e1 w6 ⟨rfl, hb6⟩
  have HB6 := Lib.hid (Below.next HB5.out hb6)
  clear hb6
  go_wp2_with fail
  refine (HT2.out _).mono ?_
  rintro e1 w7 ⟨rfl, hb7⟩
  have HB7 := Lib.hid (Below.next HB6.out hb7)
  clear hb7
  go_wp2_with fail
  go_ret
  exact ⟨rfl, HB7.out⟩
end Go.Proofs.YtnpiekniignfcaaGreatDoor
