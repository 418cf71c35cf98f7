/-
  The contracts of prims.does, from 4 on (C).
-/
import Derived.Test.YtnpiekniignfcaaGreatDoorDoes2E
namespace Go.Proofs.YtnpiekniignfcaaGreatDoor
open Go.RowKit

set_option maxHeartbeats 2000000 in
set_option maxRecDepth 100000 in
theorem does_9 (l : List Dat) (sl : Value) (B : Nat) (w : World) (hv : RepS w B l sl) (_hB : B ≤ w.heap.size) (hr : ∀ x ∈ l, Dat.right x 0 = true) (hl : l.length = 1) :
    Calls Tryz.prog 30 #[.int .i64 9, sl] w (EndPost B (Prims.does 9 l) w) := by
  obtain ⟨x, rfl⟩ : ∃ x, l = [x] := by
    match l, hl with
    | [x], _ => exact ⟨x, rfl⟩
  have hrx := hr x (by simp)
  obtain ⟨o, len, cap, rfl, hlen, hcap, hmax⟩ := slice_of hv
  obtain rfl : len = 1 := hlen
  obtain ⟨b, off, k, n, d, s, l', o', len', cap', ho, hx, e0, e1, e2, e3, e4, er⟩ := part_atS hv (Below.refl _ _) (j := 0) rfl
  subst ho hx
  simp only [Nat.zero_mul, Nat.add_zero] at e0 e1 e2 e3 e4
  have hbl := cell_lt e0
  have ER := Lib.hid er
  have HRX := Lib.hid hrx

  obtain ⟨R, hR⟩ : ∃ R, Prims.does 9 [Dat.mk k n d s l'] = R := ⟨_, rfl⟩
  rw [hR]
  have HK := Lib.hid (fun X Y => ((Below.refl w.heap.size w).alloc (Nat.le_refl _) X).alloc (by simp) Y)
  have HV := Lib.hid hv
  clear hv er hrx hr hl
  obtain ⟨r, hr⟩ : ∃ r, (k == 4) = r := ⟨_, rfl⟩
  have HRR := Lib.hid hr
  obtain ⟨rq, hrq⟩ : ∃ rq : Int, (if r then (1 : Int) else 0) = rq := ⟨_, rfl⟩
  have hrq0 : 0 ≤ rq ∧ rq ≤ 1 := by rw [← hrq]; split <;> omega
  have HRQ := Lib.hid hrq
  have HR := Lib.hid (show (Dat.mk 1 rq 0 ⟨#[]⟩ [], (0 : Int)) = R by
    rw [← hrq]; show (Prims.truth r, (0 : Int)) = R
    rw [← hR, ← hr, show (k == 4) = decide (k = 4) from by rw [Bool.eq_iff_iff, beq_iff_eq, decide_eq_true_eq]]; simp [Prims.does, Dat.kind, Prims.kinds])
  clear hR hrq
  go_enter Tryz.func30, Tryz.ntmps30
  have HN := Lib.hid (ClsA.new w (.int .i64 k) (.int .i64 n) (.int .i64 d) (.string s) (.slice o' len' cap')).drew
  go_wp2_with fail
  refine wp_region_quiet_class (ClsA w (.int .i64 k) (.int .i64 n) (.int .i64 d) (.string s) (.slice o' len' cap')) 6 (by kernel_rfl) (by kernel_rfl) HN.out ?_
  intro T0 _ W HW HW2
  have g0 : ∀ t, (W t).cell? _ = _ := fun t => (HW t).2.2.1.cells.1
  have g1 : ∀ t, (W t).cell? _ = _ := fun t => (HW t).2.2.1.cells.2.1
  have g2 : ∀ t, (W t).cell? _ = _ := fun t => (HW t).2.2.1.cells.2.2.1
  have g3 : ∀ t, (W t).cell? _ = _ := fun t => (HW t).2.2.1.cells.2.2.2.1
  have g4 : ∀ t, (W t).cell? _ = _ := fun t => (HW t).2.2.1.cells.2.2.2.2
  have HC0 : Hid (∀ t, Calls Tryz.prog 54 #[.int .i64 9] (W t) fun e w' => e = .returned (.int .i64 4) ∧ ∃ t', w' = W t') := Lib.hid (fun t => (kind_any 9 (by omega) (by omega) (W t)).mono fun e w' h => ⟨h.1, HW2 _ ((HW t).next h.2)⟩)
  have HC1 : Hid (∀ t, Calls Tryz.prog 47 #[.bool r] (W t) fun e w' => e = .returned (.agg #[.int .i64 1, .int .i64 rq, .int .i64 0, .string ⟨#[]⟩, .slice none 0 0]) ∧ ∃ t', w' = W t') := Lib.hid (fun t => (truth_to r rq HRQ.out (W t)).mono fun e w' h => ⟨h.1, HW2 _ ((HW t).next h.2)⟩)
  have HWH := Lib.hid HW
  clear HW HW2
  simp only [List.take_succ_cons, List.take_zero, List.drop_succ_cons, List.drop_zero]
  repeat (go_big_quiet_step (first | (go_at_call 54; exact HC0.out _) | (go_at_call 47; exact HC1.out _)))
  refine wpQuiet_nil ?_
  intro t
  have hbox := (HWH.out t).2.1
  obtain ⟨q0, q1, q2, q3, q4⟩ := hbox.cells
  obtain ⟨z0, z1, z2, z3, z4⟩ := hbox.free
  have hlt := hbox.lt
  obtain ⟨r0, r1, r2, r3, r4⟩ := (hbox.set (.int .i64 1) (.int .i64 rq) (.int .i64 0) (.string ⟨#[]⟩) (.slice none 0 0)).cells
  have HBF := Lib.hid ((HWH.out t).1.trans (set5_below (W t) w.heap.size w.heap.size (.int .i64 1) (.int .i64 rq) (.int .i64 0) (.string ⟨#[]⟩) (.slice none 0 0) (Nat.le_refl _)))
  clear g0 g1 g2 g3 g4
  go_wp2_with fail
  rw [← HR.out]
  exact bodyPost_ret (v := .tuple #[leafV 1 rq 0, .int .i64 0]) (by simp [results, Tryz.results30, go_sem, leafV, r0, r1, r2, r3, r4]) rfl (endPost_leaf (by omega) (by skip <;> omega) (by omega) rfl HBF.out)

set_option maxHeartbeats 2000000 in
set_option maxRecDepth 100000 in
theorem does_10 (l : List Dat) (sl : Value) (B : Nat) (w : World) (hv : RepS w B l sl) (_hB : B ≤ w.heap.size) (hr : ∀ x ∈ l, Dat.right x 0 = true) (hl : l.length = 1) :
    Calls Tryz.prog 30 #[.int .i64 10, sl] w (EndPost B (Prims.does 10 l) w) := by
  obtain ⟨x, rfl⟩ : ∃ x, l = [x] := by
    match l, hl with
    | [x], _ => exact ⟨x, rfl⟩
  have hrx := hr x (by simp)
  obtain ⟨o, len, cap, rfl, hlen, hcap, hmax⟩ := slice_of hv
  obtain rfl : len = 1 := hlen
  obtain ⟨b, off, k, n, d, s, l', o', len', cap', ho, hx, e0, e1, e2, e3, e4, er⟩ := part_atS hv (Below.refl _ _) (j := 0) rfl
  subst ho hx
  simp only [Nat.zero_mul, Nat.add_zero] at e0 e1 e2 e3 e4
  have hbl := cell_lt e0
  have ER := Lib.hid er
  have HRX := Lib.hid hrx

  obtain ⟨R, hR⟩ : ∃ R, Prims.does 10 [Dat.mk k n d s l'] = R := ⟨_, rfl⟩
  rw [hR]
  have HK := Lib.hid (fun X Y => ((Below.refl w.heap.size w).alloc (Nat.le_refl _) X).alloc (by simp) Y)
  have HV := Lib.hid hv
  clear hv er hrx hr hl
  obtain ⟨r, hr⟩ : ∃ r, (k == 6) = r := ⟨_, rfl⟩
  have HRR := Lib.hid hr
  obtain ⟨rq, hrq⟩ : ∃ rq : Int, (if r then (1 : Int) else 0) = rq := ⟨_, rfl⟩
  have hrq0 : 0 ≤ rq ∧ rq ≤ 1 := by rw [← hrq]; split <;> omega
  have HRQ := Lib.hid hrq
  have HR := Lib.hid (show (Dat.mk 1 rq 0 ⟨#[]⟩ [], (0 : Int)) = R by
    rw [← hrq]; show (Prims.truth r, (0 : Int)) = R
    rw [← hR, ← hr, show (k == 6) = decide (k = 6) from by rw [Bool.eq_iff_iff, beq_iff_eq, decide_eq_true_eq]]; simp [Prims.does, Dat.kind, Prims.kinds])
  clear hR hrq
  go_enter Tryz.func30, Tryz.ntmps30
  have HN := Lib.hid (ClsA.new w (.int .i64 k) (.int .i64 n) (.int .i64 d) (.string s) (.slice o' len' cap')).drew
  go_wp2_with fail
  refine wp_region_quiet_class (ClsA w (.int .i64 k) (.int .i64 n) (.int .i64 d) (.string s) (.slice o' len' cap')) 6 (by kernel_rfl) (by kernel_rfl) HN.out ?_
  intro T0 _ W HW HW2
  have g0 : ∀ t, (W t).cell? _ = _ := fun t => (HW t).2.2.1.cells.1
  have g1 : ∀ t, (W t).cell? _ = _ := fun t => (HW t).2.2.1.cells.2.1
  have g2 : ∀ t, (W t).cell? _ = _ := fun t => (HW t).2.2.1.cells.2.2.1
  have g3 : ∀ t, (W t).cell? _ = _ := fun t => (HW t).2.2.1.cells.2.2.2.1
  have g4 : ∀ t, (W t).cell? _ = _ := fun t => (HW t).2.2.1.cells.2.2.2.2
  have HC0 : Hid (∀ t, Calls Tryz.prog 54 #[.int .i64 10] (W t) fun e w' => e = .returned (.int .i64 6) ∧ ∃ t', w' = W t') := Lib.hid (fun t => (kind_any 10 (by omega) (by omega) (W t)).mono fun e w' h => ⟨h.1, HW2 _ ((HW t).next h.2)⟩)
  have HC1 : Hid (∀ t, Calls Tryz.prog 47 #[.bool r] (W t) fun e w' => e = .returned (.agg #[.int .i64 1, .int .i64 rq, .int .i64 0, .string ⟨#[]⟩, .slice none 0 0]) ∧ ∃ t', w' = W t') := Lib.hid (fun t => (truth_to r rq HRQ.out (W t)).mono fun e w' h => ⟨h.1, HW2 _ ((HW t).next h.2)⟩)
  have HWH := Lib.hid HW
  clear HW HW2
  simp only [List.take_succ_cons, List.take_zero, List.drop_succ_cons, List.drop_zero]
  repeat (go_big_quiet_step (first | (go_at_call 54; exact HC0.out _) | (go_at_call 47; exact HC1.out _)))
  refine wpQuiet_nil ?_
  intro t
  have hbox := (HWH.out t).2.1
  obtain ⟨q0, q1, q2, q3, q4⟩ := hbox.cells
  obtain ⟨z0, z1, z2, z3, z4⟩ := hbox.free
  have hlt := hbox.lt
  obtain ⟨r0, r1, r2, r3, r4⟩ := (hbox.set (.int .i64 1) (.int .i64 rq) (.int .i64 0) (.string ⟨#[]⟩) (.slice none 0 0)).cells
  have HBF := Lib.hid ((HWH.out t).1.trans (set5_below (W t) w.heap.size w.heap.size (.int .i64 1) (.int .i64 rq) (.int .i64 0) (.string ⟨#[]⟩) (.slice none 0 0) (Nat.le_refl _)))
  clear g0 g1 g2 g3 g4
  go_wp2_with fail
  rw [← HR.out]
  exact bodyPost_ret (v := .tuple #[leafV 1 rq 0, .int .i64 0]) (by simp [results, Tryz.results30, go_sem, leafV, r0, r1, r2, r3, r4]) rfl (endPost_leaf (by omega) (by skip <;> omega) (by omega) rfl HBF.out)

set_option maxHeartbeats 2000000 in
set_option maxRecDepth 100000 in
theorem does_11 (l : List Dat) (sl : Value) (B : Nat) (w : World) (hv : RepS w B l sl) (_hB : B ≤ w.heap.size) (hr : ∀ x ∈ l, Dat.right x 0 = true) (hl : l.length = 1) :
    Calls Tryz.prog 30 #[.int .i64 11, sl] w (EndPost B (Prims.does 11 l) w) := by
  obtain ⟨x, rfl⟩ : ∃ x, l = [x] := by
    match l, hl with
    | [x], _ => exact ⟨x, rfl⟩
  have hrx := hr x (by simp)
  obtain ⟨o, len, cap, rfl, hlen, hcap, hmax⟩ := slice_of hv
  obtain rfl : len = 1 := hlen
  obtain ⟨b, off, k, n, d, s, l', o', len', cap', ho, hx, e0, e1, e2, e3, e4, er⟩ := part_atS hv (Below.refl _ _) (j := 0) rfl
  subst ho hx
  simp only [Nat.zero_mul, Nat.add_zero] at e0 e1 e2 e3 e4
  have hbl := cell_lt e0
  have ER := Lib.hid er
  have HRX := Lib.hid hrx

  obtain ⟨R, hR⟩ : ∃ R, Prims.does 11 [Dat.mk k n d s l'] = R := ⟨_, rfl⟩
  rw [hR]
  have HK := Lib.hid (fun X Y => ((Below.refl w.heap.size w).alloc (Nat.le_refl _) X).alloc (by simp) Y)
  have HV := Lib.hid hv
  clear hv er hrx hr hl
  obtain ⟨r, hr⟩ : ∃ r, (k == 0) = r := ⟨_, rfl⟩
  have HRR := Lib.hid hr
  obtain ⟨rq, hrq⟩ : ∃ rq : Int, (if r then (1 : Int) else 0) = rq := ⟨_, rfl⟩
  have hrq0 : 0 ≤ rq ∧ rq ≤ 1 := by rw [← hrq]; split <;> omega
  have HRQ := Lib.hid hrq
  have HR := Lib.hid (show (Dat.mk 1 rq 0 ⟨#[]⟩ [], (0 : Int)) = R by
    rw [← hrq]; show (Prims.truth r, (0 : Int)) = R
    rw [← hR, ← hr, show (k == 0) = decide (k = 0) from by rw [Bool.eq_iff_iff, beq_iff_eq, decide_eq_true_eq]]; simp [Prims.does, Dat.kind, Prims.kinds])
  clear hR hrq
  go_enter Tryz.func30, Tryz.ntmps30
  have HN := Lib.hid (ClsA.new w (.int .i64 k) (.int .i64 n) (.int .i64 d) (.string s) (.slice o' len' cap')).drew
  go_wp2_with fail
  refine wp_region_quiet_class (ClsA w (.int .i64 k) (.int .i64 n) (.int .i64 d) (.string s) (.slice o' len' cap')) 6 (by kernel_rfl) (by kernel_rfl) HN.out ?_
  intro T0 _ W HW HW2
  have g0 : ∀ t, (W t).cell? _ = _ := fun t => (HW t).2.2.1.cells.1
  have g1 : ∀ t, (W t).cell? _ = _ := fun t => (HW t).2.2.1.cells.2.1
  have g2 : ∀ t, (W t).cell? _ = _ := fun t => (HW t).2.2.1.cells.2.2.1
  have g3 : ∀ t, (W t).cell? _ = _ := fun t => (HW t).2.2.1.cells.2.2.2.1
  have g4 : ∀ t, (W t).cell? _ = _ := fun t => (HW t).2.2.1.cells.2.2.2.2
  have HC0 : Hid (∀ t, Calls Tryz.prog 54 #[.int .i64 11] (W t) fun e w' => e = .returned (.int .i64 0) ∧ ∃ t', w' = W t') := Lib.hid (fun t => (kind_any 11 (by omega) (by omega) (W t)).mono fun e w' h => ⟨h.1, HW2 _ ((HW t).next h.2)⟩)
  have HC1 : Hid (∀ t, Calls Tryz.prog 47 #[.bool r] (W t) fun e w' => e = .returned (.agg #[.int .i64 1, .int .i64 rq, .int .i64 0, .string ⟨#[]⟩, .slice none 0 0]) ∧ ∃ t', w' = W t') := Lib.hid (fun t => (truth_to r rq HRQ.out (W t)).mono fun e w' h => ⟨h.1, HW2 _ ((HW t).next h.2)⟩)
  have HWH := Lib.hid HW
  clear HW HW2
  simp only [List.take_succ_cons, List.take_zero, List.drop_succ_cons, List.drop_zero]
  repeat (go_big_quiet_step (first | (go_at_call 54; exact HC0.out _) | (go_at_call 47; exact HC1.out _)))
  refine wpQuiet_nil ?_
  intro t
  have hbox := (HWH.out t).2.1
  obtain ⟨q0, q1, q2, q3, q4⟩ := hbox.cells
  obtain ⟨z0, z1, z2, z3, z4⟩ := hbox.free
  have hlt := hbox.lt
  obtain ⟨r0, r1, r2, r3, r4⟩ := (hbox.set (.int .i64 1) (.int .i64 rq) (.int .i64 0) (.string ⟨#[]⟩) (.slice none 0 0)).cells
  have HBF := Lib.hid ((HWH.out t).1.trans (set5_below (W t) w.heap.size w.heap.size (.int .i64 1) (.int .i64 rq) (.int .i64 0) (.string ⟨#[]⟩) (.slice none 0 0) (Nat.le_refl _)))
  clear g0 g1 g2 g3 g4
  go_wp2_with fail
  rw [← HR.out]
  exact bodyPost_ret (v := .tuple #[leafV 1 rq 0, .int .i64 0]) (by simp [results, Tryz.results30, go_sem, leafV, r0, r1, r2, r3, r4]) rfl (endPost_leaf (by omega) (by skip <;> omega) (by omega) rfl HBF.out)

set_option maxHeartbeats 2000000 in
set_option maxRecDepth 100000 in
theorem does_12 (l : List Dat) (sl : Value) (B : Nat) (w : World) (hv : RepS w B l sl) (_hB : B ≤ w.heap.size) (hr : ∀ x ∈ l, Dat.right x 0 = true) (hl : l.length = 1) :
    Calls Tryz.prog 30 #[.int .i64 12, sl] w (EndPost B (Prims.does 12 l) w) := by
  obtain ⟨x, rfl⟩ : ∃ x, l = [x] := by
    match l, hl with
    | [x], _ => exact ⟨x, rfl⟩
  have hrx := hr x (by simp)
  obtain ⟨o, len, cap, rfl, hlen, hcap, hmax⟩ := slice_of hv
  obtain rfl : len = 1 := hlen
  obtain ⟨b, off, k, n, d, s, l', o', len', cap', ho, hx, e0, e1, e2, e3, e4, er⟩ := part_atS hv (Below.refl _ _) (j := 0) rfl
  subst ho hx
  simp only [Nat.zero_mul, Nat.add_zero] at e0 e1 e2 e3 e4
  have hbl := cell_lt e0
  have ER := Lib.hid er
  have HRX := Lib.hid hrx

  obtain ⟨R, hR⟩ : ∃ R, Prims.does 12 [Dat.mk k n d s l'] = R := ⟨_, rfl⟩
  rw [hR]
  have HK := Lib.hid (fun X Y => ((Below.refl w.heap.size w).alloc (Nat.le_refl _) X).alloc (by simp) Y)
  have HV := Lib.hid hv
  clear hv er hrx hr hl
  obtain ⟨r, hr⟩ : ∃ r, (k == 2) = r := ⟨_, rfl⟩
  have HRR := Lib.hid hr
  obtain ⟨rq, hrq⟩ : ∃ rq : Int, (if r then (1 : Int) else 0) = rq := ⟨_, rfl⟩
  have hrq0 : 0 ≤ rq ∧ rq ≤ 1 := by rw [← hrq]; split <;> omega
  have HRQ := Lib.hid hrq
  have HR := Lib.hid (show (Dat.mk 1 rq 0 ⟨#[]⟩ [], (0 : Int)) = R by
    rw [← hrq]; show (Prims.truth r, (0 : Int)) = R
    rw [← hR, ← hr, show (k == 2) = decide (k = 2) from by rw [Bool.eq_iff_iff, beq_iff_eq, decide_eq_true_eq]]; simp [Prims.does, Dat.kind, Prims.kinds])
  clear hR hrq
  go_enter Tryz.func30, Tryz.ntmps30
  have HN := Lib.hid (ClsA.new w (.int .i64 k) (.int .i64 n) (.int .i64 d) (.string s) (.slice o' len' cap')).drew
  go_wp2_with fail
  refine wp_region_quiet_class (ClsA w (.int .i64 k) (.int .i64 n) (.int .i64 d) (.string s) (.slice o' len' cap')) 6 (by kernel_rfl) (by kernel_rfl) HN.out ?_
  intro T0 _ W HW HW2
  have g0 : ∀ t, (W t).cell? _ = _ := fun t => (HW t).2.2.1.cells.1
  have g1 : ∀ t, (W t).cell? _ = _ := fun t => (HW t).2.2.1.cells.2.1
  have g2 : ∀ t, (W t).cell? _ = _ := fun t => (HW t).2.2.1.cells.2.2.1
  have g3 : ∀ t, (W t).cell? _ = _ := fun t => (HW t).2.2.1.cells.2.2.2.1
  have g4 : ∀ t, (W t).cell? _ = _ := fun t => (HW t).2.2.1.cells.2.2.2.2
  have HC0 : Hid (∀ t, Calls Tryz.prog 54 #[.int .i64 12] (W t) fun e w' => e = .returned (.int .i64 2) ∧ ∃ t', w' = W t') := Lib.hid (fun t => (kind_any 12 (by omega) (by omega) (W t)).mono fun e w' h => ⟨h.1, HW2 _ ((HW t).next h.2)⟩)
  have HC1 : Hid (∀ t, Calls Tryz.prog 47 #[.bool r] (W t) fun e w' => e = .returned (.agg #[.int .i64 1, .int .i64 rq, .int .i64 0, .string ⟨#[]⟩, .slice none 0 0]) ∧ ∃ t', w' = W t') := Lib.hid (fun t => (truth_to r rq HRQ.out (W t)).mono fun e w' h => ⟨h.1, HW2 _ ((HW t).next h.2)⟩)
  have HWH := Lib.hid HW
  clear HW HW2
  simp only [List.take_succ_cons, List.take_zero, List.drop_succ_cons, List.drop_zero]
  repeat (go_big_quiet_step (first | (go_at_call 54; exact HC0.out _) | (go_at_call 47; exact HC1.out _)))
  refine wpQuiet_nil ?_
  intro t
  have hbox := (HWH.out t).2.1
  obtain ⟨q0, q1, q2, q3, q4⟩ := hbox.cells
  obtain ⟨z0, z1, z2, z3, z4⟩ := hbox.free
  have hlt := hbox.lt
  obtain ⟨r0, r1, r2, r3, r4⟩ := (hbox.set (.int .i64 1) (.int .i64 rq) (.int .i64 0) (.string ⟨#[]⟩) (.slice none 0 0)).cells
  have HBF := Lib.hid ((HWH.out t).1.trans (set5_below (W t) w.heap.size w.heap.size (.int .i64 1) (.int .i64 rq) (.int .i64 0) (.string ⟨#[]⟩) (.slice none 0 0) (Nat.le_refl _)))
  clear g0 g1 g2 g3 g4
  go_wp2_with fail
  rw [← HR.out]
  exact bodyPost_ret (v := .tuple #[leafV 1 rq 0, .int .i64 0]) (by simp [results, Tryz.results30, go_sem, leafV, r0, r1, r2, r3, r4]) rfl (endPost_leaf (by omega) (by skip <;> omega) (by omega) rfl HBF.out)

set_option maxHeartbeats 2000000 in
set_option maxRecDepth 100000 in
theorem does_13 (l : List Dat) (sl : Value) (B : Nat) (w : World) (hv : RepS w B l sl) (_hB : B ≤ w.heap.size) (hr : ∀ x ∈ l, Dat.right x 0 = true) (hl : l.length = 1) :
    Calls Tryz.prog 30 #[.int .i64 13, sl] w (EndPost B (Prims.does 13 l) w) := by
  obtain ⟨x, rfl⟩ : ∃ x, l = [x] := by
    match l, hl with
    | [x], _ => exact ⟨x, rfl⟩
  have hrx := hr x (by simp)
  obtain ⟨o, len, cap, rfl, hlen, hcap, hmax⟩ := slice_of hv
  obtain rfl : len = 1 := hlen
  obtain ⟨b, off, k, n, d, s, l', o', len', cap', ho, hx, e0, e1, e2, e3, e4, er⟩ := part_atS hv (Below.refl _ _) (j := 0) rfl
  subst ho hx
  simp only [Nat.zero_mul, Nat.add_zero] at e0 e1 e2 e3 e4
  have hbl := cell_lt e0
  have ER := Lib.hid er
  have HRX := Lib.hid hrx

  obtain ⟨R, hR⟩ : ∃ R, Prims.does 13 [Dat.mk k n d s l'] = R := ⟨_, rfl⟩
  rw [hR]
  have HK := Lib.hid (fun X Y => ((Below.refl w.heap.size w).alloc (Nat.le_refl _) X).alloc (by simp) Y)
  have HV := Lib.hid hv
  clear hv er hrx hr hl
  obtain ⟨r, hr⟩ : ∃ r, (k == 1) = r := ⟨_, rfl⟩
  have HRR := Lib.hid hr
  obtain ⟨rq, hrq⟩ : ∃ rq : Int, (if r then (1 : Int) else 0) = rq := ⟨_, rfl⟩
  have hrq0 : 0 ≤ rq ∧ rq ≤ 1 := by rw [← hrq]; split <;> omega
  have HRQ := Lib.hid hrq
  have HR := Lib.hid (show (Dat.mk 1 rq 0 ⟨#[]⟩ [], (0 : Int)) = R by
    rw [← hrq]; show (Prims.truth r, (0 : Int)) = R
    rw [← hR, ← hr, show (k == 1) = decide (k = 1) from by rw [Bool.eq_iff_iff, beq_iff_eq, decide_eq_true_eq]]; simp [Prims.does, Dat.kind, Prims.kinds])
  clear hR hrq
  go_enter Tryz.func30, Tryz.ntmps30
  have HN := Lib.hid (ClsA.new w (.int .i64 k) (.int .i64 n) (.int .i64 d) (.string s) (.slice o' len' cap')).drew
  go_wp2_with fail
  refine wp_region_quiet_class (ClsA w (.int .i64 k) (.int .i64 n) (.int .i64 d) (.string s) (.slice o' len' cap')) 6 (by kernel_rfl) (by kernel_rfl) HN.out ?_
  intro T0 _ W HW HW2
  have g0 : ∀ t, (W t).cell? _ = _ := fun t => (HW t).2.2.1.cells.1
  have g1 : ∀ t, (W t).cell? _ = _ := fun t => (HW t).2.2.1.cells.2.1
  have g2 : ∀ t, (W t).cell? _ = _ := fun t => (HW t).2.2.1.cells.2.2.1
  have g3 : ∀ t, (W t).cell? _ = _ := fun t => (HW t).2.2.1.cells.2.2.2.1
  have g4 : ∀ t, (W t).cell? _ = _ := fun t => (HW t).2.2.1.cells.2.2.2.2
  have HC0 : Hid (∀ t, Calls Tryz.prog 54 #[.int .i64 13] (W t) fun e w' => e = .returned (.int .i64 1) ∧ ∃ t', w' = W t') := Lib.hid (fun t => (kind_any 13 (by omega) (by omega) (W t)).mono fun e w' h => ⟨h.1, HW2 _ ((HW t).next h.2)⟩)
  have HC1 : Hid (∀ t, Calls Tryz.prog 47 #[.bool r] (W t) fun e w' => e = .returned (.agg #[.int .i64 1, .int .i64 rq, .int .i64 0, .string ⟨#[]⟩, .slice none 0 0]) ∧ ∃ t', w' = W t') := Lib.hid (fun t => (truth_to r rq HRQ.out (W t)).mono fun e w' h => ⟨h.1, HW2 _ ((HW t).next h.2)⟩)
  have HWH := Lib.hid HW
  clear HW HW2
  simp only [List.take_succ_cons, List.take_zero, List.drop_succ_cons, List.drop_zero]
  repeat (go_big_quiet_step (first | (go_at_call 54; exact HC0.out _) | (go_at_call 47; exact HC1.out _)))
  refine wpQuiet_nil ?_
  intro t
  have hbox := (HWH.out t).2.1
  obtain ⟨q0, q1, q2, q3, q4⟩ := hbox.cells
  obtain ⟨z0, z1, z2, z3, z4⟩ := hbox.free
  have hlt := hbox.lt
  obtain ⟨r0, r1, r2, r3, r4⟩ := (hbox.set (.int .i64 1) (.int .i64 rq) (.int .i64 0) (.string ⟨#[]⟩) (.slice none 0 0)).cells
  have HBF := Lib.hid ((HWH.out t).1.trans (set5_below (W t) w.heap.size w.heap.size (.int .i64 1) (.int .i64 rq) (.int .i64 0) (.string ⟨#[]⟩) (.slice none 0 0) (Nat.le_refl _)))
  clear g0 g1 g2 g3 g4
  go_wp2_with fail
  rw [← HR.out]
  exact bodyPost_ret (v := .tuple #[leafV 1 rq 0, .int .i64 0]) (by simp [results, Tryz.results30, go_sem, leafV, r0, r1, r2, r3, r4]) rfl (endPost_leaf (by omega) (by skip <;> omega) (by omega) rfl HBF.out)

set_option maxHeartbeats 2000000 in
set_option maxRecDepth 100000 in
theorem does_14 (l : List Dat) (sl : Value) (B : Nat) (w : World) (hv : RepS w B l sl) (_hB : B ≤ w.heap.size) (hr : ∀ x ∈ l, Dat.right x 0 = true) (hl : l.length = 1) :
    Calls Tryz.prog 30 #[.int .i64 14, sl] w (EndPost B (Prims.does 14 l) w) := by
  obtain ⟨x, rfl⟩ : ∃ x, l = [x] := by
    match l, hl with
    | [x], _ => exact ⟨x, rfl⟩
  have hrx := hr x (by simp)
  obtain ⟨o, len, cap, rfl, hlen, hcap, hmax⟩ := slice_of hv
  obtain rfl : len = 1 := hlen
  obtain ⟨b, off, k, n, d, s, l', o', len', cap', ho, hx, e0, e1, e2, e3, e4, er⟩ := part_atS hv (Below.refl _ _) (j := 0) rfl
  subst ho hx
  simp only [Nat.zero_mul, Nat.add_zero] at e0 e1 e2 e3 e4
  have hbl := cell_lt e0
  have ER := Lib.hid er
  have HRX := Lib.hid hrx

  obtain ⟨R, hR⟩ : ∃ R, Prims.does 14 [Dat.mk k n d s l'] = R := ⟨_, rfl⟩
  rw [hR]
  have HK := Lib.hid (fun X Y => ((Below.refl w.heap.size w).alloc (Nat.le_refl _) X).alloc (by simp) Y)
  have HV := Lib.hid hv
  clear hv er hrx hr hl
  obtain ⟨r, hr⟩ : ∃ r, (k == 3) = r := ⟨_, rfl⟩
  have HRR := Lib.hid hr
  obtain ⟨rq, hrq⟩ : ∃ rq : Int, (if r then (1 : Int) else 0) = rq := ⟨_, rfl⟩
  have hrq0 : 0 ≤ rq ∧ rq ≤ 1 := by rw [← hrq]; split <;> omega
  have HRQ := Lib.hid hrq
  have HR := Lib.hid (show (Dat.mk 1 rq 0 ⟨#[]⟩ [], (0 : Int)) = R by
    rw [← hrq]; show (Prims.truth r, (0 : Int)) = R
    rw [← hR, ← hr, show (k == 3) = decide (k = 3) from by rw [Bool.eq_iff_iff, beq_iff_eq, decide_eq_true_eq]]; simp [Prims.does, Dat.kind, Prims.kinds])
  clear hR hrq
  go_enter Tryz.func30, Tryz.ntmps30
  have HN := Lib.hid (ClsA.new w (.int .i64 k) (.int .i64 n) (.int .i64 d) (.string s) (.slice o' len' cap')).drew
  go_wp2_with fail
  refine wp_region_quiet_class (ClsA w (.int .i64 k) (.int .i64 n) (.int .i64 d) (.string s) (.slice o' len' cap')) 6 (by kernel_rfl) (by kernel_rfl) HN.out ?_
  intro T0 _ W HW HW2
  have g0 : ∀ t, (W t).cell? _ = _ := fun t => (HW t).2.2.1.cells.1
  have g1 : ∀ t, (W t).cell? _ = _ := fun t => (HW t).2.2.1.cells.2.1
  have g2 : ∀ t, (W t).cell? _ = _ := fun t => (HW t).2.2.1.cells.2.2.1
  have g3 : ∀ t, (W t).cell? _ = _ := fun t => (HW t).2.2.1.cells.2.2.2.1
  have g4 : ∀ t, (W t).cell? _ = _ := fun t => (HW t).2.2.1.cells.2.2.2.2
  have HC0 : Hid (∀ t, Calls Tryz.prog 54 #[.int .i64 14] (W t) fun e w' => e = .returned (.int .i64 3) ∧ ∃ t', w' = W t') := Lib.hid (fun t => (kind_any 14 (by omega) (by omega) (W t)).mono fun e w' h => ⟨h.1, HW2 _ ((HW t).next h.2)⟩)
  have HC1 : Hid (∀ t, Calls Tryz.prog 47 #[.bool r] (W t) fun e w' => e = .returned (.agg #[.int .i64 1, .int .i64 rq, .int .i64 0, .string ⟨#[]⟩, .slice none 0 0]) ∧ ∃ t', w' = W t') := Lib.hid (fun t => (truth_to r rq HRQ.out (W t)).mono fun e w' h => ⟨h.1, HW2 _ ((HW t).next h.2)⟩)
  have HWH := Lib.hid HW
  clear HW HW2
  simp only [List.take_succ_cons, List.take_zero, List.drop_succ_cons, List.drop_zero]
  repeat (go_big_quiet_step (first | (go_at_call 54; exact HC0.out _) | (go_at_call 47; exact HC1.out _)))
  refine wpQuiet_nil ?_
  intro t
  have hbox := (HWH.out t).2.1
  obtain ⟨q0, q1, q2, q3, q4⟩ := hbox.cells
  obtain ⟨z0, z1, z2, z3, z4⟩ := hbox.free
  have hlt := hbox.lt
  obtain ⟨r0, r1, r2, r3, r4⟩ := (hbox.set (.int .i64 1) (.int .i64 rq) (.int .i64 0) (.string ⟨#[]⟩) (.slice none 0 0)).cells
  have HBF := Lib.hid ((HWH.out t).1.trans (set5_below (W t) w.heap.size w.heap.size (.int .i64 1) (.int .i64 rq) (.int .i64 0) (.string ⟨#[]⟩) (.slice none 0 0) (Nat.le_refl _)))
  clear g0 g1 g2 g3 g4
  go_wp2_with fail
  rw [← HR.out]
  exact bodyPost_ret (v := .tuple #[leafV 1 rq 0, .int .i64 0]) (by simp [results, Tryz.results30, go_sem, leafV, r0, r1, r2, r3, r4]) rfl (endPost_leaf (by omega) (by skip <;> omega) (by omega) rfl HBF.out)

set_option maxHeartbeats 2000000 in
set_option maxRecDepth 100000 in
theorem does_15 (l : List Dat) (sl : Value) (B : Nat) (w : World) (hv : RepS w B l sl) (_hB : B ≤ w.heap.size) (hr : ∀ x ∈ l, Dat.right x 0 = true) (hl : l.length = 1) :
    Calls Tryz.prog 30 #[.int .i64 15, sl] w (EndPost B (Prims.does 15 l) w) := by
  obtain ⟨x, rfl⟩ : ∃ x, l = [x] := by
    match l, hl with
    | [x], _ => exact ⟨x, rfl⟩
  have hrx := hr x (by simp)
  obtain ⟨o, len, cap, rfl, hlen, hcap, hmax⟩ := slice_of hv
  obtain rfl : len = 1 := hlen
  obtain ⟨b, off, k, n, d, s, l', o', len', cap', ho, hx, e0, e1, e2, e3, e4, er⟩ := part_atS hv (Below.refl _ _) (j := 0) rfl
  subst ho hx
  simp only [Nat.zero_mul, Nat.add_zero] at e0 e1 e2 e3 e4
  have hbl := cell_lt e0
  have ER := Lib.hid er
  have HRX := Lib.hid hrx

  obtain ⟨R, hR⟩ : ∃ R, Prims.does 15 [Dat.mk k n d s l'] = R := ⟨_, rfl⟩
  rw [hR]
  have HK := Lib.hid (fun X Y => ((Below.refl w.heap.size w).alloc (Nat.le_refl _) X).alloc (by simp) Y)
  have HV := Lib.hid hv
  clear hv er hrx hr hl
  obtain ⟨r, hr⟩ : ∃ r, (k == 7) = r := ⟨_, rfl⟩
  have HRR := Lib.hid hr
  obtain ⟨rq, hrq⟩ : ∃ rq : Int, (if r then (1 : Int) else 0) = rq := ⟨_, rfl⟩
  have hrq0 : 0 ≤ rq ∧ rq ≤ 1 := by rw [← hrq]; split <;> omega
  have HRQ := Lib.hid hrq
  have HR := Lib.hid (show (Dat.mk 1 rq 0 ⟨#[]⟩ [], (0 : Int)) = R by
    rw [← hrq]; show (Prims.truth r, (0 : Int)) = R
    rw [← hR, ← hr, show (k == 7) = decide (k = 7) from by rw [Bool.eq_iff_iff, beq_iff_eq, decide_eq_true_eq]]; simp [Prims.does, Dat.kind, Prims.kinds])
  clear hR hrq
  go_enter Tryz.func30, Tryz.ntmps30
  have HN := Lib.hid (ClsA.new w (.int .i64 k) (.int .i64 n) (.int .i64 d) (.string s) (.slice o' len' cap')).drew
  go_wp2_with fail
  refine wp_region_quiet_class (ClsA w (.int .i64 k) (.int .i64 n) (.int .i64 d) (.string s) (.slice o' len' cap')) 6 (by kernel_rfl) (by kernel_rfl) HN.out ?_
  intro T0 _ W HW HW2
  have g0 : ∀ t, (W t).cell? _ = _ := fun t => (HW t).2.2.1.cells.1
  have g1 : ∀ t, (W t).cell? _ = _ := fun t => (HW t).2.2.1.cells.2.1
  have g2 : ∀ t, (W t).cell? _ = _ := fun t => (HW t).2.2.1.cells.2.2.1
  have g3 : ∀ t, (W t).cell? _ = _ := fun t => (HW t).2.2.1.cells.2.2.2.1
  have g4 : ∀ t, (W t).cell? _ = _ := fun t => (HW t).2.2.1.cells.2.2.2.2
  have HC0 : Hid (∀ t, Calls Tryz.prog 54 #[.int .i64 15] (W t) fun e w' => e = .returned (.int .i64 7) ∧ ∃ t', w' = W t') := Lib.hid (fun t => (kind_any 15 (by omega) (by omega) (W t)).mono fun e w' h => ⟨h.1, HW2 _ ((HW t).next h.2)⟩)
  have HC1 : Hid (∀ t, Calls Tryz.prog 47 #[.bool r] (W t) fun e w' => e = .returned (.agg #[.int .i64 1, .int .i64 rq, .int .i64 0, .string ⟨#[]⟩, .slice none 0 0]) ∧ ∃ t', w' = W t') := Lib.hid (fun t => (truth_to r rq HRQ.out (W t)).mono fun e w' h => ⟨h.1, HW2 _ ((HW t).next h.2)⟩)
  have HWH := Lib.hid HW
  clear HW HW2
  simp only [List.take_succ_cons, List.take_zero, List.drop_succ_cons, List.drop_zero]
  repeat (go_big_quiet_step (first | (go_at_call 54; exact HC0.out _) | (go_at_call 47; exact HC1.out _)))
  refine wpQuiet_nil ?_
  intro t
  have hbox := (HWH.out t).2.1
  obtain ⟨q0, q1, q2, q3, q4⟩ := hbox.cells
  obtain ⟨z0, z1, z2, z3, z4⟩ := hbox.free
  have hlt := hbox.lt
  obtain ⟨r0, r1, r2, r3, r4⟩ := (hbox.set (.int .i64 1) (.int .i64 rq) (.int .i64 0) (.string ⟨#[]⟩) (.slice none 0 0)).cells
  have HBF := Lib.hid ((HWH.out t).1.trans (set5_below (W t) w.heap.size w.heap.size (.int .i64 1) (.int .i64 rq) (.int .i64 0) (.string ⟨#[]⟩) (.slice none 0 0) (Nat.le_refl _)))
  clear g0 g1 g2 g3 g4
  go_wp2_with fail
  rw [← HR.out]
  exact bodyPost_ret (v := .tuple #[leafV 1 rq 0, .int .i64 0]) (by simp [results, Tryz.results30, go_sem, leafV, r0, r1, r2, r3, r4]) rfl (endPost_leaf (by omega) (by skip <;> omega) (by omega) rfl HBF.out)

set_option maxHeartbeats 2000000 in
set_option maxRecDepth 100000 in
theorem does_16 (l : List Dat) (sl : Value) (B : Nat) (w : World) (hv : RepS w B l sl) (_hB : B ≤ w.heap.size) (hr : ∀ x ∈ l, Dat.right x 0 = true) (hl : l.length = 1) :
    Calls Tryz.prog 30 #[.int .i64 16, sl] w (EndPost B (Prims.does 16 l) w) := by
  obtain ⟨x, rfl⟩ : ∃ x, l = [x] := by
    match l, hl with
    | [x], _ => exact ⟨x, rfl⟩
  have hrx := hr x (by simp)
  obtain ⟨o, len, cap, rfl, hlen, hcap, hmax⟩ := slice_of hv
  obtain rfl : len = 1 := hlen
  obtain ⟨b, off, k, n, d, s, l', o', len', cap', ho, hx, e0, e1, e2, e3, e4, er⟩ := part_atS hv (Below.refl _ _) (j := 0) rfl
  subst ho hx
  simp only [Nat.zero_mul, Nat.add_zero] at e0 e1 e2 e3 e4
  have hbl := cell_lt e0
  have ER := Lib.hid er
  have HRX := Lib.hid hrx

  obtain ⟨R, hR⟩ : ∃ R, Prims.does 16 [Dat.mk k n d s l'] = R := ⟨_, rfl⟩
  rw [hR]
  have HK := Lib.hid (fun X Y => ((Below.refl w.heap.size w).alloc (Nat.le_refl _) X).alloc (by simp) Y)
  have HV := Lib.hid hv
  clear hv er hrx hr hl
  obtain ⟨r, hr⟩ : ∃ r, (k == (-1)) = r := ⟨_, rfl⟩
  have HRR := Lib.hid hr
  obtain ⟨rq, hrq⟩ : ∃ rq : Int, (if r then (1 : Int) else 0) = rq := ⟨_, rfl⟩
  have hrq0 : 0 ≤ rq ∧ rq ≤ 1 := by rw [← hrq]; split <;> omega
  have HRQ := Lib.hid hrq
  have HR := Lib.hid (show (Dat.mk 1 rq 0 ⟨#[]⟩ [], (0 : Int)) = R by
    rw [← hrq]; show (Prims.truth r, (0 : Int)) = R
    rw [← hR, ← hr, show (k == (-1)) = decide (k = (-1)) from by rw [Bool.eq_iff_iff, beq_iff_eq, decide_eq_true_eq]]; simp [Prims.does, Dat.kind, Prims.kinds])
  clear hR hrq
  go_enter Tryz.func30, Tryz.ntmps30
  have HN := Lib.hid (ClsA.new w (.int .i64 k) (.int .i64 n) (.int .i64 d) (.string s) (.slice o' len' cap')).drew
  go_wp2_with fail
  refine wp_region_quiet_class (ClsA w (.int .i64 k) (.int .i64 n) (.int .i64 d) (.string s) (.slice o' len' cap')) 6 (by kernel_rfl) (by kernel_rfl) HN.out ?_
  intro T0 _ W HW HW2
  have g0 : ∀ t, (W t).cell? _ = _ := fun t => (HW t).2.2.1.cells.1
  have g1 : ∀ t, (W t).cell? _ = _ := fun t => (HW t).2.2.1.cells.2.1
  have g2 : ∀ t, (W t).cell? _ = _ := fun t => (HW t).2.2.1.cells.2.2.1
  have g3 : ∀ t, (W t).cell? _ = _ := fun t => (HW t).2.2.1.cells.2.2.2.1
  have g4 : ∀ t, (W t).cell? _ = _ := fun t => (HW t).2.2.1.cells.2.2.2.2
  have HC0 : Hid (∀ t, Calls Tryz.prog 54 #[.int .i64 16] (W t) fun e w' => e = .returned (.int .i64 (-1)) ∧ ∃ t', w' = W t') := Lib.hid (fun t => (kind_any 16 (by omega) (by omega) (W t)).mono fun e w' h => ⟨h.1, HW2 _ ((HW t).next h.2)⟩)
  have HC1 : Hid (∀ t, Calls Tryz.prog 47 #[.bool r] (W t) fun e w' => e = .returned (.agg #[.int .i64 1, .int .i64 rq, .int .i64 0, .string ⟨#[]⟩, .slice none 0 0]) ∧ ∃ t', w' = W t') := Lib.hid (fun t => (truth_to r rq HRQ.out (W t)).mono fun e w' h => ⟨h.1, HW2 _ ((HW t).next h.2)⟩)
  have HWH := Lib.hid HW
  clear HW HW2
  simp only [List.take_succ_cons, List.take_zero, List.drop_succ_cons, List.drop_zero]
  repeat (go_big_quiet_step (first | (go_at_call 54; exact HC0.out _) | (go_at_call 47; exact HC1.out _)))
  refine wpQuiet_nil ?_
  intro t
  have hbox := (HWH.out t).2.1
  obtain ⟨q0, q1, q2, q3, q4⟩ := hbox.cells
  obtain ⟨z0, z1, z2, z3, z4⟩ := hbox.free
  have hlt := hbox.lt
  obtain ⟨r0, r1, r2, r3, r4⟩ := (hbox.set (.int .i64 1) (.int .i64 rq) (.int .i64 0) (.string ⟨#[]⟩) (.slice none 0 0)).cells
  have HBF := Lib.hid ((HWH.out t).1.trans (set5_below (W t) w.heap.size w.heap.size (.int .i64 1) (.int .i64 rq) (.int .i64 0) (.string ⟨#[]⟩) (.slice none 0 0) (Nat.le_refl _)))
  clear g0 g1 g2 g3 g4
  go_wp2_with fail
  rw [← HR.out]
  exact bodyPost_ret (v := .tuple #[leafV 1 rq 0, .int .i64 0]) (by simp [results, Tryz.results30, go_sem, leafV, r0, r1, r2, r3, r4]) rfl (endPost_leaf (by omega) (by skip <;> omega) (by omega) rfl HBF.out)
end Go.Proofs.YtnpiekniignfcaaGreatDoor
