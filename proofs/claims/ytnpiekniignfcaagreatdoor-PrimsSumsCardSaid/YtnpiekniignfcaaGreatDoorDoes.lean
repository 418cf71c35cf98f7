/-
  The contracts of prims.does.
-/
import Derived.Test.YtnpiekniignfcaaGreatDoorSums
import Derived.Test.YtnpiekniignfcaaGreatDoorSames
namespace Go.Proofs.YtnpiekniignfcaaGreatDoor
open Go.RowKit

theorem slice_of {w : World} {B : Nat} {l : List Dat} {v : Value} (h : RepS w B l v) : ∃ o len cap, v = .slice o len cap ∧ len = l.length ∧ len ≤ cap ∧ cap ≤ 9223372036854775807 := by
  obtain ⟨o, len, cap, h1, h2, h3, h4, _⟩ := h
  exact ⟨o, len, cap, h1, h2, h3, h4⟩

set_option maxHeartbeats 1000000 in
set_option maxRecDepth 100000 in
theorem does_0 (l : List Dat) (sl : Value) (B : Nat) (w : World) (hv : RepS w B l sl) (hB : B ≤ w.heap.size) :
    Calls Tryz.prog 30 #[.int .i64 0, sl] w (EndPost B (Prims.does 0 l) w) := by
  obtain ⟨⟨R1, z⟩, hR⟩ : ∃ R, Prims.does 0 l = R := ⟨_, rfl⟩
  have HR := Lib.hid (show Prims.sums 0 l = (R1, z) by rw [← hR]; simp [Prims.does])
  rw [hR]
  obtain ⟨o, len, cap, rfl, hle⟩ := slice_of hv
  clear hle
  have HV := Lib.hid hv
  clear hv hR
  have HC := Lib.hid (fun W (hb : Below w.heap.size w W) => sums_0 l _ B W (HV.out.kept (hb.mono hB)) (Nat.le_trans hB hb.size) B)
  rw [HR.out] at HC
  have HK := Lib.hid (fun X => (Below.refl w.heap.size w).alloc (Nat.le_refl _) X)
  go_enter Tryz.func30, Tryz.ntmps30
  go_wp2_with fail
  refine (HC.out _ (HK.out _)).mono ?_
  rintro e1 w1 ⟨k, n', d, s, o', len', cap', rfl, hrep, hb1⟩
  have HX1 := Lib.hid (show Box5 w1 w.heap.size 26 (.int .i64 0) (.int .i64 0) (.int .i64 0) (.string ⟨#[]⟩) (.slice none 0 0) from (hb1.block _ (by simp)).trans (Box5.new w _ _ _ _ _ _))
  have HB1 := Lib.hid (one_below hb1)
  have hs1 := HB1.out.size
  have HREP := Lib.hid hrep
  obtain ⟨q0, q1, q2, q3, q4⟩ := HX1.out.cells
  obtain ⟨z0, z1, z2, z3, z4⟩ := HX1.out.free
  have hlt := HX1.out.lt
  obtain ⟨r0, r1, r2, r3, r4⟩ := (HX1.out.set (.int .i64 k) (.int .i64 n') (.int .i64 d) (.string s) (.slice o' len' cap')).cells
  clear hb1 hrep HC HR HV
  dsimp only
  go_wp2_with fail
  refine bodyPost_ret (v := .tuple #[.agg #[.int .i64 k, .int .i64 n', .int .i64 d, .string s, .slice o' len' cap'], .int .i64 z]) (by simp [results, Tryz.results30, go_sem, r0, r1, r2, r3, r4]) rfl ⟨k, n', d, s, o', len', cap', by first | rfl | skip, ?_, ?_⟩
  · exact HREP.out.kept (set5_below w1 w.heap.size B _ _ _ _ _ hB)
  · exact HB1.out.trans (set5_below w1 w.heap.size w.heap.size _ _ _ _ _ (Nat.le_refl _))

set_option maxHeartbeats 1000000 in
set_option maxRecDepth 100000 in
theorem does_1 (l : List Dat) (sl : Value) (B : Nat) (w : World) (hv : RepS w B l sl) (hB : B ≤ w.heap.size) :
    Calls Tryz.prog 30 #[.int .i64 1, sl] w (EndPost B (Prims.does 1 l) w) := by
  obtain ⟨⟨R1, z⟩, hR⟩ : ∃ R, Prims.does 1 l = R := ⟨_, rfl⟩
  have HR := Lib.hid (show Prims.sums 1 l = (R1, z) by rw [← hR]; simp [Prims.does])
  rw [hR]
  obtain ⟨o, len, cap, rfl, hle⟩ := slice_of hv
  clear hle
  have HV := Lib.hid hv
  clear hv hR
  have HC := Lib.hid (fun W (hb : Below w.heap.size w W) => sums_1 l _ B W (HV.out.kept (hb.mono hB)) (Nat.le_trans hB hb.size) B)
  rw [HR.out] at HC
  have HK := Lib.hid (fun X => (Below.refl w.heap.size w).alloc (Nat.le_refl _) X)
  go_enter Tryz.func30, Tryz.ntmps30
  go_wp2_with fail
  refine (HC.out _ (HK.out _)).mono ?_
  rintro e1 w1 ⟨k, n', d, s, o', len', cap', rfl, hrep, hb1⟩
  have HX1 := Lib.hid (show Box5 w1 w.heap.size 26 (.int .i64 0) (.int .i64 0) (.int .i64 0) (.string ⟨#[]⟩) (.slice none 0 0) from (hb1.block _ (by simp)).trans (Box5.new w _ _ _ _ _ _))
  have HB1 := Lib.hid (one_below hb1)
  have hs1 := HB1.out.size
  have HREP := Lib.hid hrep
  obtain ⟨q0, q1, q2, q3, q4⟩ := HX1.out.cells
  obtain ⟨z0, z1, z2, z3, z4⟩ := HX1.out.free
  have hlt := HX1.out.lt
  obtain ⟨r0, r1, r2, r3, r4⟩ := (HX1.out.set (.int .i64 k) (.int .i64 n') (.int .i64 d) (.string s) (.slice o' len' cap')).cells
  clear hb1 hrep HC HR HV
  dsimp only
  go_wp2_with fail
  refine bodyPost_ret (v := .tuple #[.agg #[.int .i64 k, .int .i64 n', .int .i64 d, .string s, .slice o' len' cap'], .int .i64 z]) (by simp [results, Tryz.results30, go_sem, r0, r1, r2, r3, r4]) rfl ⟨k, n', d, s, o', len', cap', by first | rfl | skip, ?_, ?_⟩
  · exact HREP.out.kept (set5_below w1 w.heap.size B _ _ _ _ _ hB)
  · exact HB1.out.trans (set5_below w1 w.heap.size w.heap.size _ _ _ _ _ (Nat.le_refl _))

set_option maxHeartbeats 1000000 in
set_option maxRecDepth 100000 in
theorem does_2 (l : List Dat) (sl : Value) (B : Nat) (w : World) (hv : RepS w B l sl) (hB : B ≤ w.heap.size) :
    Calls Tryz.prog 30 #[.int .i64 2, sl] w (EndPost B (Prims.does 2 l) w) := by
  obtain ⟨⟨R1, z⟩, hR⟩ : ∃ R, Prims.does 2 l = R := ⟨_, rfl⟩
  have HR := Lib.hid (show Prims.sums 2 l = (R1, z) by rw [← hR]; simp [Prims.does])
  rw [hR]
  obtain ⟨o, len, cap, rfl, hle⟩ := slice_of hv
  clear hle
  have HV := Lib.hid hv
  clear hv hR
  have HC := Lib.hid (fun W (hb : Below w.heap.size w W) => sums_2 l _ B W (HV.out.kept (hb.mono hB)) (Nat.le_trans hB hb.size) B)
  rw [HR.out] at HC
  have HK := Lib.hid (fun X => (Below.refl w.heap.size w).alloc (Nat.le_refl _) X)
  go_enter Tryz.func30, Tryz.ntmps30
  go_wp2_with fail
  refine (HC.out _ (HK.out _)).mono ?_
  rintro e1 w1 ⟨k, n', d, s, o', len', cap', rfl, hrep, hb1⟩
  have HX1 := Lib.hid (show Box5 w1 w.heap.size 26 (.int .i64 0) (.int .i64 0) (.int .i64 0) (.string ⟨#[]⟩) (.slice none 0 0) from (hb1.block _ (by simp)).trans (Box5.new w _ _ _ _ _ _))
  have HB1 := Lib.hid (one_below hb1)
  have hs1 := HB1.out.size
  have HREP := Lib.hid hrep
  obtain ⟨q0, q1, q2, q3, q4⟩ := HX1.out.cells
  obtain ⟨z0, z1, z2, z3, z4⟩ := HX1.out.free
  have hlt := HX1.out.lt
  obtain ⟨r0, r1, r2, r3, r4⟩ := (HX1.out.set (.int .i64 k) (.int .i64 n') (.int .i64 d) (.string s) (.slice o' len' cap')).cells
  clear hb1 hrep HC HR HV
  dsimp only
  go_wp2_with fail
  refine bodyPost_ret (v := .tuple #[.agg #[.int .i64 k, .int .i64 n', .int .i64 d, .string s, .slice o' len' cap'], .int .i64 z]) (by simp [results, Tryz.results30, go_sem, r0, r1, r2, r3, r4]) rfl ⟨k, n', d, s, o', len', cap', by first | rfl | skip, ?_, ?_⟩
  · exact HREP.out.kept (set5_below w1 w.heap.size B _ _ _ _ _ hB)
  · exact HB1.out.trans (set5_below w1 w.heap.size w.heap.size _ _ _ _ _ (Nat.le_refl _))

set_option maxHeartbeats 1000000 in
set_option maxRecDepth 100000 in
theorem does_3 (l : List Dat) (sl : Value) (B : Nat) (w : World) (hv : RepS w B l sl) (hB : B ≤ w.heap.size) :
    Calls Tryz.prog 30 #[.int .i64 3, sl] w (EndPost B (Prims.does 3 l) w) := by
  obtain ⟨⟨R1, z⟩, hR⟩ : ∃ R, Prims.does 3 l = R := ⟨_, rfl⟩
  have HR := Lib.hid (show Prims.sums 3 l = (R1, z) by rw [← hR]; simp [Prims.does])
  rw [hR]
  obtain ⟨o, len, cap, rfl, hle⟩ := slice_of hv
  clear hle
  have HV := Lib.hid hv
  clear hv hR
  have HC := Lib.hid (fun W (hb : Below w.heap.size w W) => sums_3 l _ B W (HV.out.kept (hb.mono hB)) (Nat.le_trans hB hb.size) B)
  rw [HR.out] at HC
  have HK := Lib.hid (fun X => (Below.refl w.heap.size w).alloc (Nat.le_refl _) X)
  go_enter Tryz.func30, Tryz.ntmps30
  go_wp2_with fail
  refine (HC.out _ (HK.out _)).mono ?_
  rintro e1 w1 ⟨k, n', d, s, o', len', cap', rfl, hrep, hb1⟩
  have HX1 := Lib.hid (show Box5 w1 w.heap.size 26 (.int .i64 0) (.int .i64 0) (.int .i64 0) (.string ⟨#[]⟩) (.slice none 0 0) from (hb1.block _ (by simp)).trans (Box5.new w _ _ _ _ _ _))
  have HB1 := Lib.hid (one_below hb1)
  have hs1 := HB1.out.size
  have HREP := Lib.hid hrep
  obtain ⟨q0, q1, q2, q3, q4⟩ := HX1.out.cells
  obtain ⟨z0, z1, z2, z3, z4⟩ := HX1.out.free
  have hlt := HX1.out.lt
  obtain ⟨r0, r1, r2, r3, r4⟩ := (HX1.out.set (.int .i64 k) (.int .i64 n') (.int .i64 d) (.string s) (.slice o' len' cap')).cells
  clear hb1 hrep HC HR HV
  dsimp only
  go_wp2_with fail
  refine bodyPost_ret (v := .tuple #[.agg #[.int .i64 k, .int .i64 n', .int .i64 d, .string s, .slice o' len' cap'], .int .i64 z]) (by simp [results, Tryz.results30, go_sem, r0, r1, r2, r3, r4]) rfl ⟨k, n', d, s, o', len', cap', by first | rfl | skip, ?_, ?_⟩
  · exact HREP.out.kept (set5_below w1 w.heap.size B _ _ _ _ _ hB)
  · exact HB1.out.trans (set5_below w1 w.heap.size w.heap.size _ _ _ _ _ (Nat.le_refl _))

set_option maxHeartbeats 1000000 in
set_option maxRecDepth 100000 in
theorem does_18 (l : List Dat) (sl : Value) (B : Nat) (w : World) (hv : RepS w B l sl) (hB : B ≤ w.heap.size) (hr : ∀ x ∈ l, Dat.right x 0 = true) (hl : l.length = 1) :
    Calls Tryz.prog 30 #[.int .i64 18, sl] w (EndPost B (Prims.does 18 l) w) := by
  obtain ⟨x, rfl⟩ : ∃ x, l = [x] := by
    match l, hl with
    | [x], _ => exact ⟨x, rfl⟩
  have hrx := hr x (by simp)
  obtain ⟨o, len, cap, rfl, hlen, hcap, hmax⟩ := slice_of hv
  obtain rfl : len = 1 := hlen
  obtain ⟨b, off, k, n, d, s, l', o', len', cap', ho, hx, e0, e1, e2, e3, e4, er⟩ := part_atS hv (Below.refl _ _) (j := 0) rfl
  subst ho hx
  simp only [Nat.zero_mul, Nat.add_zero] at e0 e1 e2 e3 e4
  have hbl := cell_lt e0
  have ER := Lib.hid er
  obtain ⟨R, hR⟩ : ∃ R, Prims.does 18 [Dat.mk k n d s l'] = R := ⟨_, rfl⟩
  rw [hR]
  have HK := Lib.hid (fun X Y => ((Below.refl w.heap.size w).alloc (Nat.le_refl _) X).alloc (by simp) Y)
  by_cases k6 : k = 6
  · subst k6
    obtain ⟨_, a, c, rfl, rfl, rfl, rfl, _, _⟩ := right_pair_at hrx
    have HR := Lib.hid (show (a, (0 : Int)) = R by rw [← hR]; simp [Prims.does, Dat.kind, Dat.l])
    clear hR hv er
    obtain ⟨sl, hv2, _, _, _, _, hs⟩ := ER.out.open
    simp only [Value.agg.injEq, Array.mk.injEq, List.cons.injEq, and_true, true_and] at hv2
    obtain rfl := hv2
    have hl2 : len' = 2 := by obtain ⟨_, _, _, he, h2, _⟩ := hs; simp only [Value.slice.injEq] at he; rw [he.2.1, h2]; rfl
    subst hl2
    obtain ⟨b1, off1, k1, n1, d1, s1, l1, o1, len1, cap1, ho1, hx1, f0, f1, f2, f3, f4, fr⟩ := part_atS hs (Below.refl _ _) (j := 0) rfl
    subst ho1
    simp only [Nat.zero_mul, Nat.add_zero] at f0 f1 f2 f3 f4
    have hbl1 := cell_lt f0
    have FR := Lib.hid fr
    have HX1 := Lib.hid hx1
    clear hs fr hx1
    go_enter Tryz.func30, Tryz.ntmps30
    go_wp2_with fail
    rw [← HR.out]
    refine bodyPost_ret (v := .tuple #[.agg #[.int .i64 k1, .int .i64 n1, .int .i64 d1, .string s1, .slice o1 len1 cap1], .int .i64 0]) (by simp [results, Tryz.results30, go_sem]) rfl ⟨k1, n1, d1, s1, o1, len1, cap1, rfl, by rw [HX1.out]; exact FR.out.kept ((HK.out _ _).mono hB), HK.out _ _⟩
  · have k6' : (k != 6) = true := by simpa using k6
    have HR := Lib.hid (show (Prims.zeroD, (1 : Int)) = R by rw [← hR]; simp [Prims.does, Dat.kind, k6])
    clear hR hv er
    go_enter Tryz.func30, Tryz.ntmps30
    go_wp2_with fail
    rw [← HR.out]
    exact bodyPost_ret (v := .tuple #[leafV 0 0 0, .int .i64 1]) (by simp [results, Tryz.results30, go_sem, leafV]) rfl (endPost_leaf (by omega) (by omega) (by omega) rfl (HK.out _ _))

set_option maxHeartbeats 1000000 in
set_option maxRecDepth 100000 in
theorem does_19 (l : List Dat) (sl : Value) (B : Nat) (w : World) (hv : RepS w B l sl) (hB : B ≤ w.heap.size) (hr : ∀ x ∈ l, Dat.right x 0 = true) (hl : l.length = 1) :
    Calls Tryz.prog 30 #[.int .i64 19, sl] w (EndPost B (Prims.does 19 l) w) := by
  obtain ⟨x, rfl⟩ : ∃ x, l = [x] := by
    match l, hl with
    | [x], _ => exact ⟨x, rfl⟩
  have hrx := hr x (by simp)
  obtain ⟨o, len, cap, rfl, hlen, hcap, hmax⟩ := slice_of hv
  obtain rfl : len = 1 := hlen
  obtain ⟨b, off, k, n, d, s, l', o', len', cap', ho, hx, e0, e1, e2, e3, e4, er⟩ := part_atS hv (Below.refl _ _) (j := 0) rfl
  subst ho hx
  simp only [Nat.zero_mul, Nat.add_zero] at e0 e1 e2 e3 e4
  have hbl := cell_lt e0
  have ER := Lib.hid er
  obtain ⟨R, hR⟩ : ∃ R, Prims.does 19 [Dat.mk k n d s l'] = R := ⟨_, rfl⟩
  rw [hR]
  have HK := Lib.hid (fun X Y => ((Below.refl w.heap.size w).alloc (Nat.le_refl _) X).alloc (by simp) Y)
  by_cases k6 : k = 6
  · subst k6
    obtain ⟨_, a, c, rfl, rfl, rfl, rfl, _, _⟩ := right_pair_at hrx
    have HR := Lib.hid (show (c, (0 : Int)) = R by rw [← hR]; simp [Prims.does, Dat.kind, Dat.l])
    clear hR hv er
    obtain ⟨sl, hv2, _, _, _, _, hs⟩ := ER.out.open
    simp only [Value.agg.injEq, Array.mk.injEq, List.cons.injEq, and_true, true_and] at hv2
    obtain rfl := hv2
    have hl2 : len' = 2 := by obtain ⟨_, _, _, he, h2, _⟩ := hs; simp only [Value.slice.injEq] at he; rw [he.2.1, h2]; rfl
    subst hl2
    obtain ⟨b1, off1, k1, n1, d1, s1, l1, o1, len1, cap1, ho1, hx1, f0, f1, f2, f3, f4, fr⟩ := part_atS hs (Below.refl _ _) (j := 1) rfl
    subst ho1
    simp only [Nat.one_mul, Nat.add_assoc, Nat.reduceAdd] at f0 f1 f2 f3 f4
    have hbl1 := cell_lt f0
    have FR := Lib.hid fr
    have HX1 := Lib.hid hx1
    clear hs fr hx1
    go_enter Tryz.func30, Tryz.ntmps30
    go_wp2_with fail
    rw [← HR.out]
    refine bodyPost_ret (v := .tuple #[.agg #[.int .i64 k1, .int .i64 n1, .int .i64 d1, .string s1, .slice o1 len1 cap1], .int .i64 0]) (by simp [results, Tryz.results30, go_sem]) rfl ⟨k1, n1, d1, s1, o1, len1, cap1, rfl, by rw [HX1.out]; exact FR.out.kept ((HK.out _ _).mono hB), HK.out _ _⟩
  · have k6' : (k != 6) = true := by simpa using k6
    have HR := Lib.hid (show (Prims.zeroD, (1 : Int)) = R by rw [← hR]; simp [Prims.does, Dat.kind, k6])
    clear hR hv er
    go_enter Tryz.func30, Tryz.ntmps30
    go_wp2_with fail
    rw [← HR.out]
    exact bodyPost_ret (v := .tuple #[leafV 0 0 0, .int .i64 1]) (by simp [results, Tryz.results30, go_sem, leafV]) rfl (endPost_leaf (by omega) (by omega) (by omega) rfl (HK.out _ _))
end Go.Proofs.YtnpiekniignfcaaGreatDoor
