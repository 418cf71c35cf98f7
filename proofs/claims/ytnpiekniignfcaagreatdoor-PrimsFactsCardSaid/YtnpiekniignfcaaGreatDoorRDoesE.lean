/-
  The contracts of corbelref05.does.
-/
import Derived.Test.YtnpiekniignfcaaGreatDoorDoes
import Derived.Test.YtnpiekniignfcaaGreatDoorAt
import Derived.Test.YtnpiekniignfcaaGreatDoorRSums
import Derived.Test.YtnpiekniignfcaaGreatDoorREq2
import Derived.Test.YtnpiekniignfcaaGreatDoorRItems
namespace Go.Proofs.YtnpiekniignfcaaGreatDoor
open Go.RowKit

/-- One box of a datum: the result's. -/
def ClsZ (w : World) (W : World) : Prop := Below w.heap.size w W ∧ Box5 W w.heap.size 26 (.int .i64 0) (.int .i64 0) (.int .i64 0) (.string ⟨#[]⟩) (.slice none 0 0) ∧ w.heap.size + 1 ≤ W.heap.size
theorem ClsZ.next {w W W' : World} (h : ClsZ w W) (hb : Below W.heap.size W W') : ClsZ w W' :=
  ⟨Below.next h.1 hb, (hb.block _ h.2.1.lt).trans h.2.1, Nat.le_trans h.2.2 hb.size⟩
theorem ClsZ.new (w : World) : ClsZ w (w.alloc (.cells #[.int .i64 0, .int .i64 0, .int .i64 0, .string ⟨#[]⟩, .slice none 0 0] 26)) :=
  ⟨(Below.refl _ _).alloc (Nat.le_refl _) _, Box5.new w 26 (.int .i64 0) (.int .i64 0) (.int .i64 0) (.string ⟨#[]⟩) (.slice none 0 0), by simp⟩
theorem ClsZ.drew {w W : World} (h : ClsZ w W) : ClsZ w W.drew := h.next (Below.refl _ _).drew
theorem ClsZ.alloc {w W : World} (h : ClsZ w W) (X : Obj) : ClsZ w (W.alloc X) := h.next ((Below.refl _ _).alloc (Nat.le_refl _) _)

theorem does_22_eq (x y : Dat) : Prims.does 22 [x, y] = Prims.at' x y := by simp [Prims.does]
theorem rtruth_to (b : Bool) (q : Int) (h : (if b then (1 : Int) else 0) = q) (w : World) : Calls Tryz.prog 57 #[.bool b] w fun e w' => e = .returned (leafV 1 q 0) ∧ Below w.heap.size w w' := by
  rw [← h]; exact rtruth_any b w
theorem req_to (x y : Dat) (v u : Value) (B : Nat) (w : World) (r : Bool) (hr : Prims.eq x y = r) (hv : RepD w B x v) (hu : RepD w B y u) (hB : B ≤ w.heap.size) :
    Calls Tryz.prog 59 #[v, u] w fun e w' => e = .returned (.bool r) ∧ Below w.heap.size w w' := by
  rw [← hr]; exact req_any x y v u B w hv hu hB
theorem rcalls_drewN {f : FuncId} {args : Array Value} {w : World} {v : Value} (h : Calls Tryz.prog f args w fun e w' => e = .returned v ∧ ∃ k, w' = w.drewN k) :
    Calls Tryz.prog f args w fun e w' => e = .returned v ∧ Below w.heap.size w w' :=
  h.mono fun _ _ ⟨he, k, hk⟩ => ⟨he, by rw [hk]; exact Below.selfN _ _⟩
end Go.Proofs.YtnpiekniignfcaaGreatDoor

namespace Go.Proofs.YtnpiekniignfcaaGreatDoor
open Go.RowKit

set_option maxHeartbeats 1000000 in
set_option maxRecDepth 100000 in
theorem rdoes_0 (l : List Dat) (sl : Value) (B : Nat) (w : World) (hv : RepS w B l sl) (hB : B ≤ w.heap.size) :
    Calls Tryz.prog 32 #[.int .i64 0, sl] w (EndPost B (Prims.does 0 l) w) := by
  obtain ⟨⟨R1, z⟩, hR⟩ : ∃ R, Prims.does 0 l = R := ⟨_, rfl⟩
  have HR := Lib.hid (show Prims.sums 0 l = (R1, z) by rw [← hR]; simp [Prims.does])
  rw [hR]
  obtain ⟨o, len, cap, rfl, hle⟩ := slice_of hv
  clear hle
  have HV := Lib.hid hv
  clear hv hR
  have HC := Lib.hid (fun W (hb : Below w.heap.size w W) => rsums_0 l _ B W (HV.out.kept (hb.mono hB)) (Nat.le_trans hB hb.size) B)
  rw [HR.out] at HC
  have HK := Lib.hid (fun X => (Below.refl w.heap.size w).alloc (Nat.le_refl _) X)
  go_enter Tryz.func32, Tryz.ntmps32
  go_wp2_with fail
  refine (HC.out _ (HK.out _)).mono ?_
  rintro e1 w1 ⟨k, n', d, s, o', len', cap', rfl, hrep, hb1⟩
  have HX1 := Lib.hid (show Box5 w1 w.heap.size 26 (.int .i64 0) (.int .i64 0) (.int .i64 0) (.string ⟨#[]⟩) (.slice none 0 0) from (hb1.block _ (by simp)).trans (Box5.new w _ _ _ _ _ _))
  have HB1 := Lib.hid (one_below hb1)
  have hs1 := HB1.out.size
  have HREP := Lib.hid hrep
  obtain ⟨q0, q1, q2, q3, q4⟩ := HX1.out.cells
  obtain ⟨z0, z1, z2, z3, z4⟩ := HX1.out.free
  have hlt := HX1.out.lt
  obtain ⟨r0, r1, r2, r3, r4⟩ := (HX1.out.set (.int .i64 k) (.int .i64 n') (.int .i64 d) (.string s) (.slice o' len' cap')).cells
  clear hb1 hrep HC HR HV
  dsimp only
  go_wp2_with fail
  refine bodyPost_ret (v := .tuple #[.agg #[.int .i64 k, .int .i64 n', .int .i64 d, .string s, .slice o' len' cap'], .int .i64 z]) (by simp [results, Tryz.results32, go_sem, r0, r1, r2, r3, r4]) rfl ⟨k, n', d, s, o', len', cap', by first | rfl | skip, ?_, ?_⟩
  · exact HREP.out.kept (set5_below w1 w.heap.size B _ _ _ _ _ hB)
  · exact HB1.out.trans (set5_below w1 w.heap.size w.heap.size _ _ _ _ _ (Nat.le_refl _))

set_option maxHeartbeats 1000000 in
set_option maxRecDepth 100000 in
theorem rdoes_1 (l : List Dat) (sl : Value) (B : Nat) (w : World) (hv : RepS w B l sl) (hB : B ≤ w.heap.size) :
    Calls Tryz.prog 32 #[.int .i64 1, sl] w (EndPost B (Prims.does 1 l) w) := by
  obtain ⟨⟨R1, z⟩, hR⟩ : ∃ R, Prims.does 1 l = R := ⟨_, rfl⟩
  have HR := Lib.hid (show Prims.sums 1 l = (R1, z) by rw [← hR]; simp [Prims.does])
  rw [hR]
  obtain ⟨o, len, cap, rfl, hle⟩ := slice_of hv
  clear hle
  have HV := Lib.hid hv
  clear hv hR
  have HC := Lib.hid (fun W (hb : Below w.heap.size w W) => rsums_1 l _ B W (HV.out.kept (hb.mono hB)) (Nat.le_trans hB hb.size) B)
  rw [HR.out] at HC
  have HK := Lib.hid (fun X => (Below.refl w.heap.size w).alloc (Nat.le_refl _) X)
  go_enter Tryz.func32, Tryz.ntmps32
  go_wp2_with fail
  refine (HC.out _ (HK.out _)).mono ?_
  rintro e1 w1 ⟨k, n', d, s, o', len', cap', rfl, hrep, hb1⟩
  have HX1 := Lib.hid (show Box5 w1 w.heap.size 26 (.int .i64 0) (.int .i64 0) (.int .i64 0) (.string ⟨#[]⟩) (.slice none 0 0) from (hb1.block _ (by simp)).trans (Box5.new w _ _ _ _ _ _))
  have HB1 := Lib.hid (one_below hb1)
  have hs1 := HB1.out.size
  have HREP := Lib.hid hrep
  obtain ⟨q0, q1, q2, q3, q4⟩ := HX1.out.cells
  obtain ⟨z0, z1, z2, z3, z4⟩ := HX1.out.free
  have hlt := HX1.out.lt
  obtain ⟨r0, r1, r2, r3, r4⟩ := (HX1.out.set (.int .i64 k) (.int .i64 n') (.int .i64 d) (.string s) (.slice o' len' cap')).cells
  clear hb1 hrep HC HR HV
  dsimp only
  go_wp2_with fail
  refine bodyPost_ret (v := .tuple #[.agg #[.int .i64 k, .int .i64 n', .int .i64 d, .string s, .slice o' len' cap'], .int .i64 z]) (by simp [results, Tryz.results32, go_sem, r0, r1, r2, r3, r4]) rfl ⟨k, n', d, s, o', len', cap', by first | rfl | skip, ?_, ?_⟩
  · exact HREP.out.kept (set5_below w1 w.heap.size B _ _ _ _ _ hB)
  · exact HB1.out.trans (set5_below w1 w.heap.size w.heap.size _ _ _ _ _ (Nat.le_refl _))

set_option maxHeartbeats 1000000 in
set_option maxRecDepth 100000 in
theorem rdoes_2 (l : List Dat) (sl : Value) (B : Nat) (w : World) (hv : RepS w B l sl) (hB : B ≤ w.heap.size) :
    Calls Tryz.prog 32 #[.int .i64 2, sl] w (EndPost B (Prims.does 2 l) w) := by
  obtain ⟨⟨R1, z⟩, hR⟩ : ∃ R, Prims.does 2 l = R := ⟨_, rfl⟩
  have HR := Lib.hid (show Prims.sums 2 l = (R1, z) by rw [← hR]; simp [Prims.does])
  rw [hR]
  obtain ⟨o, len, cap, rfl, hle⟩ := slice_of hv
  clear hle
  have HV := Lib.hid hv
  clear hv hR
  have HC := Lib.hid (fun W (hb : Below w.heap.size w W) => rsums_2 l _ B W (HV.out.kept (hb.mono hB)) (Nat.le_trans hB hb.size) B)
  rw [HR.out] at HC
  have HK := Lib.hid (fun X => (Below.refl w.heap.size w).alloc (Nat.le_refl _) X)
  go_enter Tryz.func32, Tryz.ntmps32
  go_wp2_with fail
  refine (HC.out _ (HK.out _)).mono ?_
  rintro e1 w1 ⟨k, n', d, s, o', len', cap', rfl, hrep, hb1⟩
  have HX1 := Lib.hid (show Box5 w1 w.heap.size 26 (.int .i64 0) (.int .i64 0) (.int .i64 0) (.string ⟨#[]⟩) (.slice none 0 0) from (hb1.block _ (by simp)).trans (Box5.new w _ _ _ _ _ _))
  have HB1 := Lib.hid (one_below hb1)
  have hs1 := HB1.out.size
  have HREP := Lib.hid hrep
  obtain ⟨q0, q1, q2, q3, q4⟩ := HX1.out.cells
  obtain ⟨z0, z1, z2, z3, z4⟩ := HX1.out.free
  have hlt := HX1.out.lt
  obtain ⟨r0, r1, r2, r3, r4⟩ := (HX1.out.set (.int .i64 k) (.int .i64 n') (.int .i64 d) (.string s) (.slice o' len' cap')).cells
  clear hb1 hrep HC HR HV
  dsimp only
  go_wp2_with fail
  refine bodyPost_ret (v := .tuple #[.agg #[.int .i64 k, .int .i64 n', .int .i64 d, .string s, .slice o' len' cap'], .int .i64 z]) (by simp [results, Tryz.results32, go_sem, r0, r1, r2, r3, r4]) rfl ⟨k, n', d, s, o', len', cap', by first | rfl | skip, ?_, ?_⟩
  · exact HREP.out.kept (set5_below w1 w.heap.size B _ _ _ _ _ hB)
  · exact HB1.out.trans (set5_below w1 w.heap.size w.heap.size _ _ _ _ _ (Nat.le_refl _))

set_option maxHeartbeats 1000000 in
set_option maxRecDepth 100000 in
theorem rdoes_3 (l : List Dat) (sl : Value) (B : Nat) (w : World) (hv : RepS w B l sl) (hB : B ≤ w.heap.size) :
    Calls Tryz.prog 32 #[.int .i64 3, sl] w (EndPost B (Prims.does 3 l) w) := by
  obtain ⟨⟨R1, z⟩, hR⟩ : ∃ R, Prims.does 3 l = R := ⟨_, rfl⟩
  have HR := Lib.hid (show Prims.sums 3 l = (R1, z) by rw [← hR]; simp [Prims.does])
  rw [hR]
  obtain ⟨o, len, cap, rfl, hle⟩ := slice_of hv
  clear hle
  have HV := Lib.hid hv
  clear hv hR
  have HC := Lib.hid (fun W (hb : Below w.heap.size w W) => rsums_3 l _ B W (HV.out.kept (hb.mono hB)) (Nat.le_trans hB hb.size) B)
  rw [HR.out] at HC
  have HK := Lib.hid (fun X => (Below.refl w.heap.size w).alloc (Nat.le_refl _) X)
  go_enter Tryz.func32, Tryz.ntmps32
  go_wp2_with fail
  refine (HC.out _ (HK.out _)).mono ?_
  rintro e1 w1 ⟨k, n', d, s, o', len', cap', rfl, hrep, hb1⟩
  have HX1 := Lib.hid (show Box5 w1 w.heap.size 26 (.int .i64 0) (.int .i64 0) (.int .i64 0) (.string ⟨#[]⟩) (.slice none 0 0) from (hb1.block _ (by simp)).trans (Box5.new w _ _ _ _ _ _))
  have HB1 := Lib.hid (one_below hb1)
  have hs1 := HB1.out.size
  have HREP := Lib.hid hrep
  obtain ⟨q0, q1, q2, q3, q4⟩ := HX1.out.cells
  obtain ⟨z0, z1, z2, z3, z4⟩ := HX1.out.free
  have hlt := HX1.out.lt
  obtain ⟨r0, r1, r2, r3, r4⟩ := (HX1.out.set (.int .i64 k) (.int .i64 n') (.int .i64 d) (.string s) (.slice o' len' cap')).cells
  clear hb1 hrep HC HR HV
  dsimp only
  go_wp2_with fail
  refine bodyPost_ret (v := .tuple #[.agg #[.int .i64 k, .int .i64 n', .int .i64 d, .string s, .slice o' len' cap'], .int .i64 z]) (by simp [results, Tryz.results32, go_sem, r0, r1, r2, r3, r4]) rfl ⟨k, n', d, s, o', len', cap', by first | rfl | skip, ?_, ?_⟩
  · exact HREP.out.kept (set5_below w1 w.heap.size B _ _ _ _ _ hB)
  · exact HB1.out.trans (set5_below w1 w.heap.size w.heap.size _ _ _ _ _ (Nat.le_refl _))

set_option maxHeartbeats 2000000 in
set_option maxRecDepth 100000 in
theorem rdoes_4 (l : List Dat) (sl : Value) (B : Nat) (w : World) (hv : RepS w B l sl) (hB : B ≤ w.heap.size) (hr : ∀ x ∈ l, Dat.right x 0 = true) (hl : l.length = 2) :
    Calls Tryz.prog 32 #[.int .i64 4, sl] w (EndPost B (Prims.does 4 l) w) := by
  obtain ⟨x,y, rfl⟩ : ∃ x y, l = [x, y] := by
    match l, hl with
    | [x, y], _ => exact ⟨x, y, rfl⟩
  have hrx := hr x (by simp)
  have hry := hr y (by simp)
  obtain ⟨o, len, cap, rfl, hlen, hcap, hmax⟩ := slice_of hv
  obtain rfl : len = 2 := hlen
  obtain ⟨b, off, k, n, d, s, l', o', len', cap', ho, hx, e0, e1, e2, e3, e4, er⟩ := part_atS hv (Below.refl _ _) (j := 0) rfl
  subst ho hx
  obtain ⟨b2, off2, k2, n2, d2, s2, l2, o2, len2, cap2, ho2, hy, f0, f1, f2, f3, f4, fr⟩ := part_atS hv (Below.refl _ _) (j := 1) rfl
  simp only [Option.some.injEq, Addr.mk.injEq, and_true] at ho2
  obtain ⟨rfl, rfl⟩ := ho2
  subst hy
  simp only [Nat.one_mul, Nat.add_assoc, Nat.reduceAdd] at f0 f1 f2 f3 f4
  have FR := Lib.hid fr
  simp only [Nat.zero_mul, Nat.add_zero] at e0 e1 e2 e3 e4
  have hbl := cell_lt e0
  have ER := Lib.hid er
  have HRX := Lib.hid hrx
  have HRY := Lib.hid hry
  obtain ⟨R, hR⟩ : ∃ R, Prims.does 4 [Dat.mk k n d s l', Dat.mk k2 n2 d2 s2 l2] = R := ⟨_, rfl⟩
  rw [hR]
  have HK := Lib.hid (fun X => (Below.refl w.heap.size w).alloc (Nat.le_refl _) X)
  have HN := Lib.hid (ClsZ.new w)
  have HV := Lib.hid hv
  clear hv er hrx hr hl fr hry
  by_cases hk : k ≠ 0
  · have k0 : (k != 0) = true := by simpa using hk
    clear HRY FR
    have HR := Lib.hid (show (Prims.zeroD, (1 : Int)) = R by rw [← hR]; simp [Prims.does, hk, Dat.kind])
    clear hR HV ER HRX
    go_enter Tryz.func32, Tryz.ntmps32
    go_wp2_with fail
    rw [← HR.out]
    exact bodyPost_ret (v := .tuple #[leafV 0 0 0, .int .i64 1]) (by simp [results, Tryz.results32, go_sem, leafV]) rfl (endPost_leaf (by omega) (by omega) (by omega) rfl (HK.out _))
  obtain rfl : k = 0 := by omega
  by_cases hk2 : k2 ≠ 0
  · have k0 : (k2 != 0) = true := by simpa using hk2
    clear HRY FR
    have HR := Lib.hid (show (Prims.zeroD, (1 : Int)) = R by rw [← hR]; simp [Prims.does, hk2, Dat.kind])
    clear hR HV ER HRX
    go_enter Tryz.func32, Tryz.ntmps32
    go_wp2_with fail
    rw [← HR.out]
    exact bodyPost_ret (v := .tuple #[leafV 0 0 0, .int .i64 1]) (by simp [results, Tryz.results32, go_sem, leafV]) rfl (endPost_leaf (by omega) (by omega) (by omega) rfl (HK.out _))
  obtain rfl : k2 = 0 := by omega
  obtain ⟨r, hr⟩ : ∃ r, Dat.alike (.mk 0 n d s l') (.mk 0 n2 d2 s2 l2) = r := ⟨_, rfl⟩
  have HRR := Lib.hid hr
  obtain ⟨rq, hrq⟩ : ∃ rq : Int, (if r then (1 : Int) else 0) = rq := ⟨_, rfl⟩
  have hrq0 : 0 ≤ rq ∧ rq ≤ 1 := by rw [← hrq]; split <;> omega
  have HRQ := Lib.hid hrq
  have HR := Lib.hid (show (Dat.mk 1 rq 0 ⟨#[]⟩ [], (0 : Int)) = R by rw [← hrq]; show (Prims.truth r, (0 : Int)) = R; rw [← hR, ← hr]; simp [Prims.does, Dat.kind])
  clear hR hr hrq
  go_enter Tryz.func32, Tryz.ntmps32
  go_wp2_with fail
  refine wp_region_quiet_class (ClsZ w) 8 (by kernel_rfl) (by kernel_rfl) HN.out.drew ?_
  intro T0 _ W HW HW2
  have g0 : ∀ t, (W t).cell? _ = _ := fun t => ((HW t).1.cell (p := ⟨b, off, none⟩) hbl).trans e0
  have g1 : ∀ t, (W t).cell? _ = _ := fun t => ((HW t).1.cell (p := ⟨b, off + 1, none⟩) hbl).trans e1
  have g2 : ∀ t, (W t).cell? _ = _ := fun t => ((HW t).1.cell (p := ⟨b, off + 2, none⟩) hbl).trans e2
  have g3 : ∀ t, (W t).cell? _ = _ := fun t => ((HW t).1.cell (p := ⟨b, off + 3, none⟩) hbl).trans e3
  have g4 : ∀ t, (W t).cell? _ = _ := fun t => ((HW t).1.cell (p := ⟨b, off + 4, none⟩) hbl).trans e4
  have j0 : ∀ t, (W t).cell? _ = _ := fun t => ((HW t).1.cell (p := ⟨b, off + 5, none⟩) hbl).trans f0
  have j1 : ∀ t, (W t).cell? _ = _ := fun t => ((HW t).1.cell (p := ⟨b, off + 6, none⟩) hbl).trans f1
  have j2 : ∀ t, (W t).cell? _ = _ := fun t => ((HW t).1.cell (p := ⟨b, off + 7, none⟩) hbl).trans f2
  have j3 : ∀ t, (W t).cell? _ = _ := fun t => ((HW t).1.cell (p := ⟨b, off + 8, none⟩) hbl).trans f3
  have j4 : ∀ t, (W t).cell? _ = _ := fun t => ((HW t).1.cell (p := ⟨b, off + 9, none⟩) hbl).trans f4
  have HC0 : Hid (∀ t, Calls Tryz.prog 14 #[.agg #[.int .i64 0, .int .i64 n, .int .i64 d, .string s, .slice o' len' cap'], .agg #[.int .i64 0, .int .i64 n2, .int .i64 d2, .string s2, .slice o2 len2 cap2]] (W t) fun e w' => e = .returned (.bool r) ∧ ∃ t', w' = W t') := Lib.hid (fun t => (ralike_to (.mk 0 n d s l') (.mk 0 n2 d2 s2 l2) _ _ B (W t) r HRR.out (ER.out.kept (Below.mono (HW t).1 hB)) (FR.out.kept (Below.mono (HW t).1 hB)) (Nat.le_trans hB (HW t).1.size)).mono fun e w' h => ⟨h.1, HW2 _ ((HW t).next h.2)⟩)
  have HC1 : Hid (∀ t, Calls Tryz.prog 57 #[.bool r] (W t) fun e w' => e = .returned (.agg #[.int .i64 1, .int .i64 rq, .int .i64 0, .string ⟨#[]⟩, .slice none 0 0]) ∧ ∃ t', w' = W t') := Lib.hid (fun t => (rtruth_to r rq HRQ.out (W t)).mono fun e w' h => ⟨h.1, HW2 _ ((HW t).next h.2)⟩)
  have HWH := Lib.hid HW
  clear HW HW2
  simp only [List.take_succ_cons, List.take_zero, List.drop_succ_cons, List.drop_zero]
  repeat (go_big_quiet_step (first | (go_at_call 14; exact HC0.out _) | (go_at_call 57; exact HC1.out _)))
  refine wpQuiet_nil ?_
  intro t
  have hbox := (HWH.out t).2.1
  obtain ⟨q0, q1, q2, q3, q4⟩ := hbox.cells
  obtain ⟨z0, z1, z2, z3, z4⟩ := hbox.free
  have hlt := hbox.lt
  obtain ⟨r0, r1, r2, r3, r4⟩ := (hbox.set (.int .i64 1) (.int .i64 rq) (.int .i64 0) (.string ⟨#[]⟩) (.slice none 0 0)).cells
  have HBF := Lib.hid ((HWH.out t).1.trans (set5_below (W t) w.heap.size w.heap.size (.int .i64 1) (.int .i64 rq) (.int .i64 0) (.string ⟨#[]⟩) (.slice none 0 0) (Nat.le_refl _)))
  go_wp2_with fail
  rw [← HR.out]
  exact bodyPost_ret (v := .tuple #[leafV 1 rq 0, .int .i64 0]) (by simp [results, Tryz.results32, go_sem, leafV, r0, r1, r2, r3, r4]) rfl (endPost_leaf (by omega) (by skip <;> omega) (by omega) rfl HBF.out)

set_option maxHeartbeats 2000000 in
set_option maxRecDepth 100000 in
theorem rdoes_5 (l : List Dat) (sl : Value) (B : Nat) (w : World) (hv : RepS w B l sl) (_hB : B ≤ w.heap.size) (hr : ∀ x ∈ l, Dat.right x 0 = true) (hl : l.length = 2) :
    Calls Tryz.prog 32 #[.int .i64 5, sl] w (EndPost B (Prims.does 5 l) w) := by
  obtain ⟨x,y, rfl⟩ : ∃ x y, l = [x, y] := by
    match l, hl with
    | [x, y], _ => exact ⟨x, y, rfl⟩
  have hrx := hr x (by simp)
  have hry := hr y (by simp)
  obtain ⟨o, len, cap, rfl, hlen, hcap, hmax⟩ := slice_of hv
  obtain rfl : len = 2 := hlen
  obtain ⟨b, off, k, n, d, s, l', o', len', cap', ho, hx, e0, e1, e2, e3, e4, er⟩ := part_atS hv (Below.refl _ _) (j := 0) rfl
  subst ho hx
  obtain ⟨b2, off2, k2, n2, d2, s2, l2, o2, len2, cap2, ho2, hy, f0, f1, f2, f3, f4, fr⟩ := part_atS hv (Below.refl _ _) (j := 1) rfl
  simp only [Option.some.injEq, Addr.mk.injEq, and_true] at ho2
  obtain ⟨rfl, rfl⟩ := ho2
  subst hy
  simp only [Nat.one_mul, Nat.add_assoc, Nat.reduceAdd] at f0 f1 f2 f3 f4
  have FR := Lib.hid fr
  simp only [Nat.zero_mul, Nat.add_zero] at e0 e1 e2 e3 e4
  have hbl := cell_lt e0
  have ER := Lib.hid er
  have HRX := Lib.hid hrx
  have HRY := Lib.hid hry
  obtain ⟨R, hR⟩ : ∃ R, Prims.does 5 [Dat.mk k n d s l', Dat.mk k2 n2 d2 s2 l2] = R := ⟨_, rfl⟩
  rw [hR]
  have HK := Lib.hid (fun X => (Below.refl w.heap.size w).alloc (Nat.le_refl _) X)
  have HN := Lib.hid (ClsZ.new w)
  have HV := Lib.hid hv
  clear hv er hrx hr hl fr hry
  by_cases hk : k ≠ 0
  · have k0 : (k != 0) = true := by simpa using hk
    clear HRY FR
    have HR := Lib.hid (show (Prims.zeroD, (1 : Int)) = R by rw [← hR]; simp [Prims.does, hk, Dat.kind])
    clear hR HV ER HRX
    go_enter Tryz.func32, Tryz.ntmps32
    go_wp2_with fail
    rw [← HR.out]
    exact bodyPost_ret (v := .tuple #[leafV 0 0 0, .int .i64 1]) (by simp [results, Tryz.results32, go_sem, leafV]) rfl (endPost_leaf (by omega) (by omega) (by omega) rfl (HK.out _))
  obtain rfl : k = 0 := by omega
  by_cases hk2 : k2 ≠ 0
  · have k0 : (k2 != 0) = true := by simpa using hk2
    clear HRY FR
    have HR := Lib.hid (show (Prims.zeroD, (1 : Int)) = R by rw [← hR]; simp [Prims.does, hk2, Dat.kind])
    clear hR HV ER HRX
    go_enter Tryz.func32, Tryz.ntmps32
    go_wp2_with fail
    rw [← HR.out]
    exact bodyPost_ret (v := .tuple #[leafV 0 0 0, .int .i64 1]) (by simp [results, Tryz.results32, go_sem, leafV]) rfl (endPost_leaf (by omega) (by omega) (by omega) rfl (HK.out _))
  obtain rfl : k2 = 0 := by omega
  obtain ⟨_, _, _, bn, bd, _⟩ := ER.out.open
  obtain ⟨_, _, _, bn2, bd2, _⟩ := FR.out.open
  obtain ⟨r, hr⟩ : ∃ r, Num.less n d n2 d2 = r := ⟨_, rfl⟩
  have HRR := Lib.hid hr
  obtain ⟨rq, hrq⟩ : ∃ rq : Int, (if r then (1 : Int) else 0) = rq := ⟨_, rfl⟩
  have hrq0 : 0 ≤ rq ∧ rq ≤ 1 := by rw [← hrq]; split <;> omega
  have HRQ := Lib.hid hrq
  have HR := Lib.hid (show (Dat.mk 1 rq 0 ⟨#[]⟩ [], (0 : Int)) = R by rw [← hrq]; show (Prims.truth r, (0 : Int)) = R; rw [← hR, ← hr]; simp [Prims.does, Dat.kind, Dat.n, Dat.d])
  clear hR hr hrq
  go_enter Tryz.func32, Tryz.ntmps32
  go_wp2_with fail
  refine wp_region_quiet_class (ClsZ w) 18 (by kernel_rfl) (by kernel_rfl) HN.out.drew ?_
  intro T0 _ W HW HW2
  have g0 : ∀ t, (W t).cell? _ = _ := fun t => ((HW t).1.cell (p := ⟨b, off, none⟩) hbl).trans e0
  have g1 : ∀ t, (W t).cell? _ = _ := fun t => ((HW t).1.cell (p := ⟨b, off + 1, none⟩) hbl).trans e1
  have g2 : ∀ t, (W t).cell? _ = _ := fun t => ((HW t).1.cell (p := ⟨b, off + 2, none⟩) hbl).trans e2
  have g3 : ∀ t, (W t).cell? _ = _ := fun t => ((HW t).1.cell (p := ⟨b, off + 3, none⟩) hbl).trans e3
  have g4 : ∀ t, (W t).cell? _ = _ := fun t => ((HW t).1.cell (p := ⟨b, off + 4, none⟩) hbl).trans e4
  have j0 : ∀ t, (W t).cell? _ = _ := fun t => ((HW t).1.cell (p := ⟨b, off + 5, none⟩) hbl).trans f0
  have j1 : ∀ t, (W t).cell? _ = _ := fun t => ((HW t).1.cell (p := ⟨b, off + 6, none⟩) hbl).trans f1
  have j2 : ∀ t, (W t).cell? _ = _ := fun t => ((HW t).1.cell (p := ⟨b, off + 7, none⟩) hbl).trans f2
  have j3 : ∀ t, (W t).cell? _ = _ := fun t => ((HW t).1.cell (p := ⟨b, off + 8, none⟩) hbl).trans f3
  have j4 : ∀ t, (W t).cell? _ = _ := fun t => ((HW t).1.cell (p := ⟨b, off + 9, none⟩) hbl).trans f4
  have HC0 : Hid (∀ t, Calls Tryz.prog 58 #[.int .i64 n, .int .i64 d, .int .i64 n2, .int .i64 d2] (W t) fun e w' => e = .returned (.bool r) ∧ ∃ t', w' = W t') := Lib.hid (fun t => (rcalls_drewN (rless_to n d n2 d2 r HRR.out bn.1 bn.2 bd.1 bd.2 bn2.1 bn2.2 bd2.1 bd2.2 (W t))).mono fun e w' h => ⟨h.1, HW2 _ ((HW t).next h.2)⟩)
  have HC1 : Hid (∀ t, Calls Tryz.prog 57 #[.bool r] (W t) fun e w' => e = .returned (.agg #[.int .i64 1, .int .i64 rq, .int .i64 0, .string ⟨#[]⟩, .slice none 0 0]) ∧ ∃ t', w' = W t') := Lib.hid (fun t => (rtruth_to r rq HRQ.out (W t)).mono fun e w' h => ⟨h.1, HW2 _ ((HW t).next h.2)⟩)
  have HWH := Lib.hid HW
  clear HW HW2
  simp only [List.take_succ_cons, List.take_zero, List.drop_succ_cons, List.drop_zero]
  repeat (go_big_quiet_step (first | (go_at_call 58; exact HC0.out _) | (go_at_call 57; exact HC1.out _)))
  refine wpQuiet_nil ?_
  intro t
  have hbox := (HWH.out t).2.1
  obtain ⟨q0, q1, q2, q3, q4⟩ := hbox.cells
  obtain ⟨z0, z1, z2, z3, z4⟩ := hbox.free
  have hlt := hbox.lt
  obtain ⟨r0, r1, r2, r3, r4⟩ := (hbox.set (.int .i64 1) (.int .i64 rq) (.int .i64 0) (.string ⟨#[]⟩) (.slice none 0 0)).cells
  have HBF := Lib.hid ((HWH.out t).1.trans (set5_below (W t) w.heap.size w.heap.size (.int .i64 1) (.int .i64 rq) (.int .i64 0) (.string ⟨#[]⟩) (.slice none 0 0) (Nat.le_refl _)))
  go_wp2_with fail
  rw [← HR.out]
  exact bodyPost_ret (v := .tuple #[leafV 1 rq 0, .int .i64 0]) (by simp [results, Tryz.results32, go_sem, leafV, r0, r1, r2, r3, r4]) rfl (endPost_leaf (by omega) (by skip <;> omega) (by omega) rfl HBF.out)

set_option maxHeartbeats 2000000 in
set_option maxRecDepth 100000 in
theorem rdoes_6 (l : List Dat) (sl : Value) (B : Nat) (w : World) (hv : RepS w B l sl) (hB : B ≤ w.heap.size) (hr : ∀ x ∈ l, Dat.right x 0 = true) (hl : l.length = 2) :
    Calls Tryz.prog 32 #[.int .i64 6, sl] w (EndPost B (Prims.does 6 l) w) := by
  obtain ⟨x,y, rfl⟩ : ∃ x y, l = [x, y] := by
    match l, hl with
    | [x, y], _ => exact ⟨x, y, rfl⟩
  have hrx := hr x (by simp)
  have hry := hr y (by simp)
  obtain ⟨o, len, cap, rfl, hlen, hcap, hmax⟩ := slice_of hv
  obtain rfl : len = 2 := hlen
  obtain ⟨b, off, k, n, d, s, l', o', len', cap', ho, hx, e0, e1, e2, e3, e4, er⟩ := part_atS hv (Below.refl _ _) (j := 0) rfl
  subst ho hx
  obtain ⟨b2, off2, k2, n2, d2, s2, l2, o2, len2, cap2, ho2, hy, f0, f1, f2, f3, f4, fr⟩ := part_atS hv (Below.refl _ _) (j := 1) rfl
  simp only [Option.some.injEq, Addr.mk.injEq, and_true] at ho2
  obtain ⟨rfl, rfl⟩ := ho2
  subst hy
  simp only [Nat.one_mul, Nat.add_assoc, Nat.reduceAdd] at f0 f1 f2 f3 f4
  have FR := Lib.hid fr
  simp only [Nat.zero_mul, Nat.add_zero] at e0 e1 e2 e3 e4
  have hbl := cell_lt e0
  have ER := Lib.hid er
  have HRX := Lib.hid hrx
  have HRY := Lib.hid hry
  obtain ⟨R, hR⟩ : ∃ R, Prims.does 6 [Dat.mk k n d s l', Dat.mk k2 n2 d2 s2 l2] = R := ⟨_, rfl⟩
  rw [hR]
  have HK := Lib.hid (fun X => (Below.refl w.heap.size w).alloc (Nat.le_refl _) X)
  have HN := Lib.hid (ClsZ.new w)
  have HV := Lib.hid hv
  clear hv er hrx hr hl fr hry
  obtain ⟨r, hr⟩ : ∃ r, Prims.eq (.mk k n d s l') (.mk k2 n2 d2 s2 l2) = r := ⟨_, rfl⟩
  have HRR := Lib.hid hr
  obtain ⟨rq, hrq⟩ : ∃ rq : Int, (if r then (1 : Int) else 0) = rq := ⟨_, rfl⟩
  have hrq0 : 0 ≤ rq ∧ rq ≤ 1 := by rw [← hrq]; split <;> omega
  have HRQ := Lib.hid hrq
  have HR := Lib.hid (show (Dat.mk 1 rq 0 ⟨#[]⟩ [], (0 : Int)) = R by rw [← hrq]; show (Prims.truth r, (0 : Int)) = R; rw [← hR, ← hr]; simp [Prims.does])
  clear hR hr hrq
  go_enter Tryz.func32, Tryz.ntmps32
  go_wp2_with fail
  refine wp_region_quiet_class (ClsZ w) 8 (by kernel_rfl) (by kernel_rfl) HN.out.drew ?_
  intro T0 _ W HW HW2
  have g0 : ∀ t, (W t).cell? _ = _ := fun t => ((HW t).1.cell (p := ⟨b, off, none⟩) hbl).trans e0
  have g1 : ∀ t, (W t).cell? _ = _ := fun t => ((HW t).1.cell (p := ⟨b, off + 1, none⟩) hbl).trans e1
  have g2 : ∀ t, (W t).cell? _ = _ := fun t => ((HW t).1.cell (p := ⟨b, off + 2, none⟩) hbl).trans e2
  have g3 : ∀ t, (W t).cell? _ = _ := fun t => ((HW t).1.cell (p := ⟨b, off + 3, none⟩) hbl).trans e3
  have g4 : ∀ t, (W t).cell? _ = _ := fun t => ((HW t).1.cell (p := ⟨b, off + 4, none⟩) hbl).trans e4
  have j0 : ∀ t, (W t).cell? _ = _ := fun t => ((HW t).1.cell (p := ⟨b, off + 5, none⟩) hbl).trans f0
  have j1 : ∀ t, (W t).cell? _ = _ := fun t => ((HW t).1.cell (p := ⟨b, off + 6, none⟩) hbl).trans f1
  have j2 : ∀ t, (W t).cell? _ = _ := fun t => ((HW t).1.cell (p := ⟨b, off + 7, none⟩) hbl).trans f2
  have j3 : ∀ t, (W t).cell? _ = _ := fun t => ((HW t).1.cell (p := ⟨b, off + 8, none⟩) hbl).trans f3
  have j4 : ∀ t, (W t).cell? _ = _ := fun t => ((HW t).1.cell (p := ⟨b, off + 9, none⟩) hbl).trans f4
  have HC0 : Hid (∀ t, Calls Tryz.prog 59 #[.agg #[.int .i64 k, .int .i64 n, .int .i64 d, .string s, .slice o' len' cap'], .agg #[.int .i64 k2, .int .i64 n2, .int .i64 d2, .string s2, .slice o2 len2 cap2]] (W t) fun e w' => e = .returned (.bool r) ∧ ∃ t', w' = W t') := Lib.hid (fun t => (req_to (.mk k n d s l') (.mk k2 n2 d2 s2 l2) _ _ B (W t) r HRR.out (ER.out.kept (Below.mono (HW t).1 hB)) (FR.out.kept (Below.mono (HW t).1 hB)) (Nat.le_trans hB (HW t).1.size)).mono fun e w' h => ⟨h.1, HW2 _ ((HW t).next h.2)⟩)
  have HC1 : Hid (∀ t, Calls Tryz.prog 57 #[.bool r] (W t) fun e w' => e = .returned (.agg #[.int .i64 1, .int .i64 rq, .int .i64 0, .string ⟨#[]⟩, .slice none 0 0]) ∧ ∃ t', w' = W t') := Lib.hid (fun t => (rtruth_to r rq HRQ.out (W t)).mono fun e w' h => ⟨h.1, HW2 _ ((HW t).next h.2)⟩)
  have HWH := Lib.hid HW
  clear HW HW2
  simp only [List.take_succ_cons, List.take_zero, List.drop_succ_cons, List.drop_zero]
  repeat (go_big_quiet_step (first | (go_at_call 59; exact HC0.out _) | (go_at_call 57; exact HC1.out _)))
  refine wpQuiet_nil ?_
  intro t
  have hbox := (HWH.out t).2.1
  obtain ⟨q0, q1, q2, q3, q4⟩ := hbox.cells
  obtain ⟨z0, z1, z2, z3, z4⟩ := hbox.free
  have hlt := hbox.lt
  obtain ⟨r0, r1, r2, r3, r4⟩ := (hbox.set (.int .i64 1) (.int .i64 rq) (.int .i64 0) (.string ⟨#[]⟩) (.slice none 0 0)).cells
  have HBF := Lib.hid ((HWH.out t).1.trans (set5_below (W t) w.heap.size w.heap.size (.int .i64 1) (.int .i64 rq) (.int .i64 0) (.string ⟨#[]⟩) (.slice none 0 0) (Nat.le_refl _)))
  go_wp2_with fail
  rw [← HR.out]
  exact bodyPost_ret (v := .tuple #[leafV 1 rq 0, .int .i64 0]) (by simp [results, Tryz.results32, go_sem, leafV, r0, r1, r2, r3, r4]) rfl (endPost_leaf (by omega) (by skip <;> omega) (by omega) rfl HBF.out)
end Go.Proofs.YtnpiekniignfcaaGreatDoor

namespace Go.Proofs.YtnpiekniignfcaaGreatDoor
open Go.RowKit

set_option maxHeartbeats 2000000 in
set_option maxRecDepth 100000 in
theorem rdoes_7 (l : List Dat) (sl : Value) (B : Nat) (w : World) (hv : RepS w B l sl) (hB : B ≤ w.heap.size) (hr : ∀ x ∈ l, Dat.right x 0 = true) (hl : l.length = 2) :
    Calls Tryz.prog 32 #[.int .i64 7, sl] w (EndPost B (Prims.does 7 l) w) := by
  obtain ⟨x,y, rfl⟩ : ∃ x y, l = [x, y] := by
    match l, hl with
    | [x, y], _ => exact ⟨x, y, rfl⟩
  have hrx := hr x (by simp)
  have hry := hr y (by simp)
  obtain ⟨o, len, cap, rfl, hlen, hcap, hmax⟩ := slice_of hv
  obtain rfl : len = 2 := hlen
  obtain ⟨b, off, k, n, d, s, l', o', len', cap', ho, hx, e0, e1, e2, e3, e4, er⟩ := part_atS hv (Below.refl _ _) (j := 0) rfl
  subst ho hx
  obtain ⟨b2, off2, k2, n2, d2, s2, l2, o2, len2, cap2, ho2, hy, f0, f1, f2, f3, f4, fr⟩ := part_atS hv (Below.refl _ _) (j := 1) rfl
  simp only [Option.some.injEq, Addr.mk.injEq, and_true] at ho2
  obtain ⟨rfl, rfl⟩ := ho2
  subst hy
  simp only [Nat.one_mul, Nat.add_assoc, Nat.reduceAdd] at f0 f1 f2 f3 f4
  have FR := Lib.hid fr
  simp only [Nat.zero_mul, Nat.add_zero] at e0 e1 e2 e3 e4
  have hbl := cell_lt e0
  have ER := Lib.hid er
  have HRX := Lib.hid hrx
  have HRY := Lib.hid hry
  obtain ⟨R, hR⟩ : ∃ R, Prims.does 7 [Dat.mk k n d s l', Dat.mk k2 n2 d2 s2 l2] = R := ⟨_, rfl⟩
  rw [hR]
  have HK := Lib.hid (fun X => (Below.refl w.heap.size w).alloc (Nat.le_refl _) X)
  have HN := Lib.hid (ClsZ.new w)
  have HV := Lib.hid hv
  clear hv er hrx hr hl fr hry
  obtain ⟨⟨q, lq⟩, hq⟩ : ∃ r, Prims.eqc (.mk k n d s l') (.mk k2 n2 d2 s2 l2) 1000 = r := ⟨_, rfl⟩
  have bds := eqc_bd (.mk k n d s l') (.mk k2 n2 d2 s2 l2) 1000 (by omega)
  rw [hq] at bds
  have bd1 : -1 ≤ lq := bds.1
  have bd2 : lq ≤ 1000 := bds.2.1
  have HQ := Lib.hid hq
  have HR := Lib.hid (show (if lq < 0 then (Prims.zeroD, (3 : Int)) else (Prims.truth q, 0)) = R by rw [← hR]; simp [Prims.does, Prims.equal, hq])
  have hR' := hR
  clear hR hR' hq bds
  go_enter Tryz.func32, Tryz.ntmps32
  have HN2 := Lib.hid (show ClsZ w ((w.alloc (.cells #[.int .i64 0, .int .i64 0, .int .i64 0, .string ⟨#[]⟩, .slice none 0 0] 26)).alloc (.cells #[.int .i64 1000] 3)) from HN.out.alloc _)
  have HN3 := Lib.hid (show ((w.alloc (.cells #[.int .i64 0, .int .i64 0, .int .i64 0, .string ⟨#[]⟩, .slice none 0 0] 26)).alloc (.cells #[.int .i64 1000] 3)).heap[w.heap.size + 1]? = some (.cells #[.int .i64 1000] 3) by
    have := World.alloc_heap_new (w.alloc (.cells #[.int .i64 0, .int .i64 0, .int .i64 0, .string ⟨#[]⟩, .slice none 0 0] 26)) (.cells #[.int .i64 1000] 3)
    rwa [World.size_alloc] at this)
  go_wp2_with fail
  refine wp_region_quiet_class (fun W => ClsZ w W ∧ W.heap[w.heap.size + 1]? = some (.cells #[.int .i64 1000] 3)) 6 (by kernel_rfl) (by kernel_rfl) ⟨HN2.out.drew, HN3.out⟩ ?_
  intro T0 _ W HWW HW2
  have HW : ∀ t, ClsZ w (W t) := fun t => (HWW t).1
  have g0 : ∀ t, (W t).cell? _ = _ := fun t => ((HW t).1.cell (p := ⟨b, off, none⟩) hbl).trans e0
  have g1 : ∀ t, (W t).cell? _ = _ := fun t => ((HW t).1.cell (p := ⟨b, off + 1, none⟩) hbl).trans e1
  have g2 : ∀ t, (W t).cell? _ = _ := fun t => ((HW t).1.cell (p := ⟨b, off + 2, none⟩) hbl).trans e2
  have g3 : ∀ t, (W t).cell? _ = _ := fun t => ((HW t).1.cell (p := ⟨b, off + 3, none⟩) hbl).trans e3
  have g4 : ∀ t, (W t).cell? _ = _ := fun t => ((HW t).1.cell (p := ⟨b, off + 4, none⟩) hbl).trans e4
  have j0 : ∀ t, (W t).cell? _ = _ := fun t => ((HW t).1.cell (p := ⟨b, off + 5, none⟩) hbl).trans f0
  have j1 : ∀ t, (W t).cell? _ = _ := fun t => ((HW t).1.cell (p := ⟨b, off + 6, none⟩) hbl).trans f1
  have j2 : ∀ t, (W t).cell? _ = _ := fun t => ((HW t).1.cell (p := ⟨b, off + 7, none⟩) hbl).trans f2
  have j3 : ∀ t, (W t).cell? _ = _ := fun t => ((HW t).1.cell (p := ⟨b, off + 8, none⟩) hbl).trans f3
  have j4 : ∀ t, (W t).cell? _ = _ := fun t => ((HW t).1.cell (p := ⟨b, off + 9, none⟩) hbl).trans f4
  have HWH := Lib.hid HWW
  clear HW HW2 HWW
  simp only [List.take_succ_cons, List.take_zero, List.drop_succ_cons, List.drop_zero]
  repeat (go_big_quiet_step (fail))
  refine wpQuiet_nil ?_
  intro t
  have HC := Lib.hid (requal_any (.mk k n d s l') (.mk k2 n2 d2 s2 l2) _ _ B (w.heap.size + 1) 1000 (W t) (by omega) (by omega) (ER.out.kept (Below.mono (HWH.out t).1.1 hB)) (FR.out.kept (Below.mono (HWH.out t).1.1 hB)) (by omega) (Nat.le_trans hB (HWH.out t).1.1.size) (HWH.out t).2)
  rw [HQ.out] at HC
  go_wp2_with fail
  refine HC.out.mono ?_
  rintro e1 w1 ⟨rfl, hb1⟩
  have hn1 : w1.heap[w.heap.size + 1]? = some (.cells #[.int .i64 lq] 3) := (hb1.block _ (Array.getElem?_eq_some_iff.1 (HWH.out t).2).1).trans (setN_at lq (HWH.out t).2)
  obtain ⟨n0, n1, n2⟩ := one_cells hn1
  have hC1 : ClsZ w w1 := ⟨((HWH.out t).1.1.setCell (p := ⟨w.heap.size + 1, 0, none⟩) (by simp) _).trans (hb1.mono (HWH.out t).1.1.size), (hb1.block _ (HWH.out t).1.2.1.lt).trans ((setN_ne _ _ _ (by omega)).trans (HWH.out t).1.2.1), by have := hb1.size; rw [setN_size] at this; exact Nat.le_trans (HWH.out t).1.2.2 this⟩
  have HC1 := Lib.hid hC1
  clear hb1 hC1 HC
  by_cases hlq : lq < 0
  · have hlq2 : decide (lq < 0) = true := decide_eq_true hlq
    have HRR := Lib.hid (show (Prims.zeroD, (3 : Int)) = R by rw [← HR.out, if_pos hlq])
    have hbox := (HC1.out).2.1
    obtain ⟨q0, q1, q2, q3, q4⟩ := hbox.cells
    obtain ⟨z0, z1, z2, z3, z4⟩ := hbox.free
    have hlt := hbox.lt
    obtain ⟨r0, r1, r2, r3, r4⟩ := (hbox.set (.int .i64 0) (.int .i64 0) (.int .i64 0) (.string ⟨#[]⟩) (.slice none 0 0)).cells
    have HBF := Lib.hid ((HC1.out).1.trans (set5_below w1 w.heap.size w.heap.size (.int .i64 0) (.int .i64 0) (.int .i64 0) (.string ⟨#[]⟩) (.slice none 0 0) (Nat.le_refl _)))
    go_wp2_with fail
    rw [← HRR.out]
    exact bodyPost_ret (v := .tuple #[leafV 0 0 0, .int .i64 3]) (by simp [results, Tryz.results32, go_sem, leafV, r0, r1, r2, r3, r4]) rfl (endPost_leaf (by omega) (by skip <;> omega) (by omega) rfl HBF.out)
  · have hlq2 : decide (lq < 0) = false := decide_eq_false hlq
    obtain ⟨rq, hrq⟩ : ∃ rq : Int, (if q then (1 : Int) else 0) = rq := ⟨_, rfl⟩
    have hrq0 : 0 ≤ rq ∧ rq ≤ 1 := by rw [← hrq]; split <;> omega
    have HRQ := Lib.hid hrq
    have HRR := Lib.hid (show (Dat.mk 1 rq 0 ⟨#[]⟩ [], (0 : Int)) = R by rw [← hrq]; show (Prims.truth q, (0 : Int)) = R; rw [← HR.out, if_neg hlq])
    clear hrq
    go_wp2_with fail
    refine (rtruth_to q rq HRQ.out _).mono ?_
    rintro e1 w2 ⟨rfl, hb2⟩
    simp only [leafV]
    have HC2 := Lib.hid (HC1.out.next hb2)
    clear hb2
    have hbox := (HC2.out).2.1
    obtain ⟨q0, q1, q2, q3, q4⟩ := hbox.cells
    obtain ⟨z0, z1, z2, z3, z4⟩ := hbox.free
    have hlt := hbox.lt
    obtain ⟨r0, r1, r2, r3, r4⟩ := (hbox.set (.int .i64 1) (.int .i64 rq) (.int .i64 0) (.string ⟨#[]⟩) (.slice none 0 0)).cells
    have HBF := Lib.hid ((HC2.out).1.trans (set5_below w2 w.heap.size w.heap.size (.int .i64 1) (.int .i64 rq) (.int .i64 0) (.string ⟨#[]⟩) (.slice none 0 0) (Nat.le_refl _)))
    go_wp2_with fail
    rw [← HRR.out]
    exact bodyPost_ret (v := .tuple #[leafV 1 rq 0, .int .i64 0]) (by simp [results, Tryz.results32, go_sem, leafV, r0, r1, r2, r3, r4]) rfl (endPost_leaf (by omega) (by skip <;> omega) (by omega) rfl HBF.out)

set_option maxHeartbeats 2000000 in
set_option maxRecDepth 100000 in
theorem rdoes_8 (l : List Dat) (sl : Value) (B : Nat) (w : World) (hv : RepS w B l sl) (_hB : B ≤ w.heap.size) (hr : ∀ x ∈ l, Dat.right x 0 = true) (hl : l.length = 1) :
    Calls Tryz.prog 32 #[.int .i64 8, sl] w (EndPost B (Prims.does 8 l) w) := by
  obtain ⟨x, rfl⟩ : ∃ x, l = [x] := by
    match l, hl with
    | [x], _ => exact ⟨x, rfl⟩
  have hrx := hr x (by simp)
  obtain ⟨o, len, cap, rfl, hlen, hcap, hmax⟩ := slice_of hv
  obtain rfl : len = 1 := hlen
  obtain ⟨b, off, k, n, d, s, l', o', len', cap', ho, hx, e0, e1, e2, e3, e4, er⟩ := part_atS hv (Below.refl _ _) (j := 0) rfl
  subst ho hx
  simp only [Nat.zero_mul, Nat.add_zero] at e0 e1 e2 e3 e4
  have hbl := cell_lt e0
  have ER := Lib.hid er
  have HRX := Lib.hid hrx

  obtain ⟨R, hR⟩ : ∃ R, Prims.does 8 [Dat.mk k n d s l'] = R := ⟨_, rfl⟩
  rw [hR]
  have HK := Lib.hid (fun X => (Below.refl w.heap.size w).alloc (Nat.le_refl _) X)
  have HN := Lib.hid (ClsZ.new w)
  have HV := Lib.hid hv
  clear hv er hrx hr hl
  by_cases hk : k = 1
  · subst hk
    by_cases hn : n = 0
    · subst hn
      have HR := Lib.hid (show (Prims.truth true, (0 : Int)) = R by rw [← hR]; simp [Prims.does, Dat.kind, Dat.n])
      clear hR HV HRX
      go_enter Tryz.func32, Tryz.ntmps32
      go_wp2_with fail
      refine (rtruth_any true _).mono ?_
      rintro e1 w1 ⟨rfl, hb1⟩
      simp only [leafV, ↓reduceIte]
      have HC1 := Lib.hid (HN.out.next hb1)
      clear hb1
      have hbox := (HC1.out).2.1
      obtain ⟨q0, q1, q2, q3, q4⟩ := hbox.cells
      obtain ⟨z0, z1, z2, z3, z4⟩ := hbox.free
      have hlt := hbox.lt
      obtain ⟨r0, r1, r2, r3, r4⟩ := (hbox.set (.int .i64 1) (.int .i64 1) (.int .i64 0) (.string ⟨#[]⟩) (.slice none 0 0)).cells
      have HBF := Lib.hid ((HC1.out).1.trans (set5_below w1 w.heap.size w.heap.size (.int .i64 1) (.int .i64 1) (.int .i64 0) (.string ⟨#[]⟩) (.slice none 0 0) (Nat.le_refl _)))
      go_wp2_with fail
      rw [← HR.out]
      exact bodyPost_ret (v := .tuple #[leafV 1 1 0, .int .i64 0]) (by simp [results, Tryz.results32, go_sem, leafV, r0, r1, r2, r3, r4]) rfl (endPost_leaf (by omega) (by skip <;> omega) (by omega) rfl HBF.out)
    · have n0 : (n == 0) = false := by simpa using hn
      have HR := Lib.hid (show (Prims.truth false, (0 : Int)) = R by rw [← hR]; simp [Prims.does, Dat.kind, Dat.n, hn])
      clear hR HV HRX
      go_enter Tryz.func32, Tryz.ntmps32
      go_wp2_with fail
      refine (rtruth_any false _).mono ?_
      rintro e1 w1 ⟨rfl, hb1⟩
      simp only [leafV, ↓reduceIte, Bool.false_eq_true]
      have HC1 := Lib.hid (HN.out.next hb1)
      clear hb1
      have hbox := (HC1.out).2.1
      obtain ⟨q0, q1, q2, q3, q4⟩ := hbox.cells
      obtain ⟨z0, z1, z2, z3, z4⟩ := hbox.free
      have hlt := hbox.lt
      obtain ⟨r0, r1, r2, r3, r4⟩ := (hbox.set (.int .i64 1) (.int .i64 0) (.int .i64 0) (.string ⟨#[]⟩) (.slice none 0 0)).cells
      have HBF := Lib.hid ((HC1.out).1.trans (set5_below w1 w.heap.size w.heap.size (.int .i64 1) (.int .i64 0) (.int .i64 0) (.string ⟨#[]⟩) (.slice none 0 0) (Nat.le_refl _)))
      go_wp2_with fail
      rw [← HR.out]
      exact bodyPost_ret (v := .tuple #[leafV 1 0 0, .int .i64 0]) (by simp [results, Tryz.results32, go_sem, leafV, r0, r1, r2, r3, r4]) rfl (endPost_leaf (by omega) (by skip <;> omega) (by omega) rfl HBF.out)
  · have k1 : (k == 1) = false := by simpa using hk
    have HR := Lib.hid (show (Prims.truth false, (0 : Int)) = R by rw [← hR]; simp [Prims.does, Dat.kind, Dat.n, hk])
    clear hR HV HRX
    go_enter Tryz.func32, Tryz.ntmps32
    go_wp2_with fail
    refine (rtruth_any false _).mono ?_
    rintro e1 w1 ⟨rfl, hb1⟩
    simp only [leafV, ↓reduceIte, Bool.false_eq_true]
    have HC1 := Lib.hid (HN.out.next hb1)
    clear hb1
    have hbox := (HC1.out).2.1
    obtain ⟨q0, q1, q2, q3, q4⟩ := hbox.cells
    obtain ⟨z0, z1, z2, z3, z4⟩ := hbox.free
    have hlt := hbox.lt
    obtain ⟨r0, r1, r2, r3, r4⟩ := (hbox.set (.int .i64 1) (.int .i64 0) (.int .i64 0) (.string ⟨#[]⟩) (.slice none 0 0)).cells
    have HBF := Lib.hid ((HC1.out).1.trans (set5_below w1 w.heap.size w.heap.size (.int .i64 1) (.int .i64 0) (.int .i64 0) (.string ⟨#[]⟩) (.slice none 0 0) (Nat.le_refl _)))
    go_wp2_with fail
    rw [← HR.out]
    exact bodyPost_ret (v := .tuple #[leafV 1 0 0, .int .i64 0]) (by simp [results, Tryz.results32, go_sem, leafV, r0, r1, r2, r3, r4]) rfl (endPost_leaf (by omega) (by skip <;> omega) (by omega) rfl HBF.out)
end Go.Proofs.YtnpiekniignfcaaGreatDoor

namespace Go.Proofs.YtnpiekniignfcaaGreatDoor
open Go.RowKit

set_option maxHeartbeats 2000000 in
set_option maxRecDepth 100000 in
theorem rdoes_18 (l : List Dat) (sl : Value) (B : Nat) (w : World) (hv : RepS w B l sl) (hB : B ≤ w.heap.size) (hr : ∀ x ∈ l, Dat.right x 0 = true) (hl : l.length = 1) :
    Calls Tryz.prog 32 #[.int .i64 18, sl] w (EndPost B (Prims.does 18 l) w) := by
  obtain ⟨x, rfl⟩ : ∃ x, l = [x] := by
    match l, hl with
    | [x], _ => exact ⟨x, rfl⟩
  have hrx := hr x (by simp)
  obtain ⟨o, len, cap, rfl, hlen, hcap, hmax⟩ := slice_of hv
  obtain rfl : len = 1 := hlen
  obtain ⟨b, off, k, n, d, s, l', o', len', cap', ho, hx, e0, e1, e2, e3, e4, er⟩ := part_atS hv (Below.refl _ _) (j := 0) rfl
  subst ho hx
  simp only [Nat.zero_mul, Nat.add_zero] at e0 e1 e2 e3 e4
  have hbl := cell_lt e0
  have ER := Lib.hid er
  have HRX := Lib.hid hrx

  obtain ⟨R, hR⟩ : ∃ R, Prims.does 18 [Dat.mk k n d s l'] = R := ⟨_, rfl⟩
  rw [hR]
  have HK := Lib.hid (fun X => (Below.refl w.heap.size w).alloc (Nat.le_refl _) X)
  have HN := Lib.hid (ClsZ.new w)
  have HV := Lib.hid hv
  clear hv er hrx hr hl
  by_cases k6 : k = 6
  · subst k6
    obtain ⟨_, a, c, rfl, rfl, rfl, rfl, _, _⟩ := right_pair_at HRX.out
    have HR := Lib.hid (show (a, (0 : Int)) = R by rw [← hR]; simp [Prims.does, Dat.kind, Dat.l])
    clear hR HV HRX
    obtain ⟨sl, hv2, _, _, _, _, hs⟩ := ER.out.open
    simp only [Value.agg.injEq, Array.mk.injEq, List.cons.injEq, and_true, true_and] at hv2
    obtain rfl := hv2
    have hl2 : len' = 2 := by obtain ⟨_, _, _, he, h2, _⟩ := hs; simp only [Value.slice.injEq] at he; rw [he.2.1, h2]; rfl
    subst hl2
    obtain ⟨b1, off1, k1, n1, d1, s1, l1, o1, len1, cap1, ho1, hx1, f0, f1, f2, f3, f4, fr⟩ := part_atS hs (Below.refl _ _) (j := 0) rfl
    subst ho1
    simp only [Nat.zero_mul, Nat.add_zero] at f0 f1 f2 f3 f4
    have hbl1 := cell_lt f0
    have FR := Lib.hid fr
    have HX1 := Lib.hid hx1
    clear hs fr hx1
    go_enter Tryz.func32, Tryz.ntmps32
    go_wp2_with fail
    rw [← HR.out]
    refine bodyPost_ret (v := .tuple #[.agg #[.int .i64 k1, .int .i64 n1, .int .i64 d1, .string s1, .slice o1 len1 cap1], .int .i64 0]) (by simp [results, Tryz.results32, go_sem]) rfl ⟨k1, n1, d1, s1, o1, len1, cap1, rfl, by rw [HX1.out]; exact FR.out.kept ((HK.out _).mono hB), HK.out _⟩
  · have k6' : (k != 6) = true := by simpa using k6
    have HR := Lib.hid (show (Prims.zeroD, (1 : Int)) = R by rw [← hR]; simp [Prims.does, Dat.kind, k6])
    clear hR HV ER HRX
    go_enter Tryz.func32, Tryz.ntmps32
    go_wp2_with fail
    rw [← HR.out]
    exact bodyPost_ret (v := .tuple #[leafV 0 0 0, .int .i64 1]) (by simp [results, Tryz.results32, go_sem, leafV]) rfl (endPost_leaf (by omega) (by omega) (by omega) rfl (HK.out _))

set_option maxHeartbeats 2000000 in
set_option maxRecDepth 100000 in
theorem rdoes_19 (l : List Dat) (sl : Value) (B : Nat) (w : World) (hv : RepS w B l sl) (hB : B ≤ w.heap.size) (hr : ∀ x ∈ l, Dat.right x 0 = true) (hl : l.length = 1) :
    Calls Tryz.prog 32 #[.int .i64 19, sl] w (EndPost B (Prims.does 19 l) w) := by
  obtain ⟨x, rfl⟩ : ∃ x, l = [x] := by
    match l, hl with
    | [x], _ => exact ⟨x, rfl⟩
  have hrx := hr x (by simp)
  obtain ⟨o, len, cap, rfl, hlen, hcap, hmax⟩ := slice_of hv
  obtain rfl : len = 1 := hlen
  obtain ⟨b, off, k, n, d, s, l', o', len', cap', ho, hx, e0, e1, e2, e3, e4, er⟩ := part_atS hv (Below.refl _ _) (j := 0) rfl
  subst ho hx
  simp only [Nat.zero_mul, Nat.add_zero] at e0 e1 e2 e3 e4
  have hbl := cell_lt e0
  have ER := Lib.hid er
  have HRX := Lib.hid hrx

  obtain ⟨R, hR⟩ : ∃ R, Prims.does 19 [Dat.mk k n d s l'] = R := ⟨_, rfl⟩
  rw [hR]
  have HK := Lib.hid (fun X => (Below.refl w.heap.size w).alloc (Nat.le_refl _) X)
  have HN := Lib.hid (ClsZ.new w)
  have HV := Lib.hid hv
  clear hv er hrx hr hl
  by_cases k6 : k = 6
  · subst k6
    obtain ⟨_, a, c, rfl, rfl, rfl, rfl, _, _⟩ := right_pair_at HRX.out
    have HR := Lib.hid (show (c, (0 : Int)) = R by rw [← hR]; simp [Prims.does, Dat.kind, Dat.l])
    clear hR HV HRX
    obtain ⟨sl, hv2, _, _, _, _, hs⟩ := ER.out.open
    simp only [Value.agg.injEq, Array.mk.injEq, List.cons.injEq, and_true, true_and] at hv2
    obtain rfl := hv2
    have hl2 : len' = 2 := by obtain ⟨_, _, _, he, h2, _⟩ := hs; simp only [Value.slice.injEq] at he; rw [he.2.1, h2]; rfl
    subst hl2
    obtain ⟨b1, off1, k1, n1, d1, s1, l1, o1, len1, cap1, ho1, hx1, f0, f1, f2, f3, f4, fr⟩ := part_atS hs (Below.refl _ _) (j := 1) rfl
    subst ho1
    simp only [Nat.one_mul, Nat.add_assoc, Nat.reduceAdd] at f0 f1 f2 f3 f4
    have hbl1 := cell_lt f0
    have FR := Lib.hid fr
    have HX1 := Lib.hid hx1
    clear hs fr hx1
    go_enter Tryz.func32, Tryz.ntmps32
    go_wp2_with fail
    rw [← HR.out]
    refine bodyPost_ret (v := .tuple #[.agg #[.int .i64 k1, .int .i64 n1, .int .i64 d1, .string s1, .slice o1 len1 cap1], .int .i64 0]) (by simp [results, Tryz.results32, go_sem]) rfl ⟨k1, n1, d1, s1, o1, len1, cap1, rfl, by rw [HX1.out]; exact FR.out.kept ((HK.out _).mono hB), HK.out _⟩
  · have k6' : (k != 6) = true := by simpa using k6
    have HR := Lib.hid (show (Prims.zeroD, (1 : Int)) = R by rw [← hR]; simp [Prims.does, Dat.kind, k6])
    clear hR HV ER HRX
    go_enter Tryz.func32, Tryz.ntmps32
    go_wp2_with fail
    rw [← HR.out]
    exact bodyPost_ret (v := .tuple #[leafV 0 0 0, .int .i64 1]) (by simp [results, Tryz.results32, go_sem, leafV]) rfl (endPost_leaf (by omega) (by omega) (by omega) rfl (HK.out _))

set_option maxHeartbeats 2000000 in
set_option maxRecDepth 100000 in
theorem rdoes_22 (l : List Dat) (sl : Value) (B : Nat) (w : World) (hv : RepS w B l sl) (hB : B ≤ w.heap.size) (hr : ∀ x ∈ l, Dat.right x 0 = true) (hl : l.length = 2) :
    Calls Tryz.prog 32 #[.int .i64 22, sl] w (EndPost B (Prims.does 22 l) w) := by
  obtain ⟨x,y, rfl⟩ : ∃ x y, l = [x, y] := by
    match l, hl with
    | [x, y], _ => exact ⟨x, y, rfl⟩
  have hrx := hr x (by simp)
  have hry := hr y (by simp)
  obtain ⟨o, len, cap, rfl, hlen, hcap, hmax⟩ := slice_of hv
  obtain rfl : len = 2 := hlen
  obtain ⟨b, off, k, n, d, s, l', o', len', cap', ho, hx, e0, e1, e2, e3, e4, er⟩ := part_atS hv (Below.refl _ _) (j := 0) rfl
  subst ho hx
  obtain ⟨b2, off2, k2, n2, d2, s2, l2, o2, len2, cap2, ho2, hy, f0, f1, f2, f3, f4, fr⟩ := part_atS hv (Below.refl _ _) (j := 1) rfl
  simp only [Option.some.injEq, Addr.mk.injEq, and_true] at ho2
  obtain ⟨rfl, rfl⟩ := ho2
  subst hy
  simp only [Nat.one_mul, Nat.add_assoc, Nat.reduceAdd] at f0 f1 f2 f3 f4
  have FR := Lib.hid fr
  simp only [Nat.zero_mul, Nat.add_zero] at e0 e1 e2 e3 e4
  have hbl := cell_lt e0
  have ER := Lib.hid er
  have HRX := Lib.hid hrx
  have HRY := Lib.hid hry
  obtain ⟨R, hR⟩ : ∃ R, Prims.does 22 [Dat.mk k n d s l', Dat.mk k2 n2 d2 s2 l2] = R := ⟨_, rfl⟩
  rw [hR]
  have HK := Lib.hid (fun X => (Below.refl w.heap.size w).alloc (Nat.le_refl _) X)
  have HN := Lib.hid (ClsZ.new w)
  have HV := Lib.hid hv
  clear hv er hrx hr hl fr hry
  by_cases hk : k ≠ 7
  · have k0 : (k != 7) = true := by simpa using hk
    clear HRY FR
    have HR := Lib.hid (show (Prims.zeroD, (1 : Int)) = R by rw [← hR]; simp [Prims.does, Prims.at', hk, Dat.kind])
    clear hR HV ER HRX
    go_enter Tryz.func32, Tryz.ntmps32
    go_wp2_with fail
    rw [← HR.out]
    exact bodyPost_ret (v := .tuple #[leafV 0 0 0, .int .i64 1]) (by simp [results, Tryz.results32, go_sem, leafV]) rfl (endPost_leaf (by omega) (by omega) (by omega) rfl (HK.out _))
  obtain rfl : k = 7 := by omega
  by_cases hk2 : k2 ≠ 0
  · have k0 : (k2 != 0) = true := by simpa using hk2
    clear HRY FR
    have HR := Lib.hid (show (Prims.zeroD, (1 : Int)) = R by rw [← hR]; simp [Prims.does, Prims.at', hk2, Dat.kind])
    clear hR HV ER HRX
    go_enter Tryz.func32, Tryz.ntmps32
    go_wp2_with fail
    rw [← HR.out]
    exact bodyPost_ret (v := .tuple #[leafV 0 0 0, .int .i64 1]) (by simp [results, Tryz.results32, go_sem, leafV]) rfl (endPost_leaf (by omega) (by omega) (by omega) rfl (HK.out _))
  obtain rfl : k2 = 0 := by omega
  obtain ⟨sl, hv2, _, _, _, _, hs⟩ := ER.out.open
  simp only [Value.agg.injEq, Array.mk.injEq, List.cons.injEq, and_true, true_and] at hv2
  obtain rfl := hv2
  obtain ⟨_, _, _, bn2, bd2, _⟩ := FR.out.open
  have hl2 : len' = l'.length ∧ len' ≤ 9223372036854775807 := by obtain ⟨_, _, _, he, h2, h3, h4, _⟩ := hs; simp only [Value.slice.injEq] at he; rw [he.2.1]; exact ⟨h2, Nat.le_trans h3 h4⟩
  have HS := Lib.hid hs
  have HL := Lib.hid hl2.1
  have hlm := hl2.2
  clear hs hl2
  clear HRX HRY HV
  rcases (by omega : d2 ≠ 1 ∨ (d2 = 1 ∧ n2 < 0) ∨ (d2 = 1 ∧ 0 ≤ n2 ∧ (len' : Int) ≤ n2) ∨ (d2 = 1 ∧ 0 ≤ n2 ∧ n2 < (len' : Int))) with hd | ⟨rfl, hd⟩ | ⟨rfl, hd, hd2⟩ | ⟨rfl, hd, hd2⟩
  · have HR := Lib.hid (show (Prims.zeroD, (3 : Int)) = R by
      rw [← hR, does_22_eq, Prims.at', if_neg (by simp [Dat.kind]), if_pos]
      show (d2 : Int) ≠ 1 ∨ n2 < 0 ∨ (l'.length : Int) ≤ n2
      rw [← HL.out]
      omega)
    clear hR
    have k7 : (d2 != 1) = true := by simpa using hd
    go_enter Tryz.func32, Tryz.ntmps32
    go_wp2_with fail
    refine wp_region_quiet_all (ClsZ w) (by kernel_rfl) (by kernel_rfl) HN.out.drew ?_
    intro T0 _ W HW HW2
    have g0 : ∀ t, (W t).cell? _ = _ := fun t => ((HW t).1.cell (p := ⟨b, off, none⟩) hbl).trans e0
    have g1 : ∀ t, (W t).cell? _ = _ := fun t => ((HW t).1.cell (p := ⟨b, off + 1, none⟩) hbl).trans e1
    have g2 : ∀ t, (W t).cell? _ = _ := fun t => ((HW t).1.cell (p := ⟨b, off + 2, none⟩) hbl).trans e2
    have g3 : ∀ t, (W t).cell? _ = _ := fun t => ((HW t).1.cell (p := ⟨b, off + 3, none⟩) hbl).trans e3
    have g4 : ∀ t, (W t).cell? _ = _ := fun t => ((HW t).1.cell (p := ⟨b, off + 4, none⟩) hbl).trans e4
    have j0 : ∀ t, (W t).cell? _ = _ := fun t => ((HW t).1.cell (p := ⟨b, off + 5, none⟩) hbl).trans f0
    have j1 : ∀ t, (W t).cell? _ = _ := fun t => ((HW t).1.cell (p := ⟨b, off + 6, none⟩) hbl).trans f1
    have j2 : ∀ t, (W t).cell? _ = _ := fun t => ((HW t).1.cell (p := ⟨b, off + 7, none⟩) hbl).trans f2
    have j3 : ∀ t, (W t).cell? _ = _ := fun t => ((HW t).1.cell (p := ⟨b, off + 8, none⟩) hbl).trans f3
    have j4 : ∀ t, (W t).cell? _ = _ := fun t => ((HW t).1.cell (p := ⟨b, off + 9, none⟩) hbl).trans f4
    have HWH := Lib.hid HW
    clear HW HW2
    repeat (go_big_quiet_step (fail))
    refine wpQuiet_nil ?_
    intro t
    have hbox := (HWH.out t).2.1
    obtain ⟨q0, q1, q2, q3, q4⟩ := hbox.cells
    obtain ⟨z0, z1, z2, z3, z4⟩ := hbox.free
    have hlt := hbox.lt
    obtain ⟨r0, r1, r2, r3, r4⟩ := (hbox.set (.int .i64 0) (.int .i64 0) (.int .i64 0) (.string ⟨#[]⟩) (.slice none 0 0)).cells
    have HBF := Lib.hid ((HWH.out t).1.trans (set5_below (W t) w.heap.size w.heap.size (.int .i64 0) (.int .i64 0) (.int .i64 0) (.string ⟨#[]⟩) (.slice none 0 0) (Nat.le_refl _)))
    go_wp2_with fail
    rw [← HR.out]
    exact bodyPost_ret (v := .tuple #[leafV 0 0 0, .int .i64 3]) (by simp [results, Tryz.results32, go_sem, leafV, r0, r1, r2, r3, r4]) rfl (endPost_leaf (by omega) (by skip <;> omega) (by omega) rfl HBF.out)
  · have HR := Lib.hid (show (Prims.zeroD, (3 : Int)) = R by
      rw [← hR, does_22_eq, Prims.at', if_neg (by simp [Dat.kind]), if_pos]
      show (1 : Int) ≠ 1 ∨ n2 < 0 ∨ (l'.length : Int) ≤ n2
      rw [← HL.out]
      omega)
    clear hR
    have k7 : decide (n2 < 0) = true := by simpa using hd
    go_enter Tryz.func32, Tryz.ntmps32
    go_wp2_with fail
    refine wp_region_quiet_all (ClsZ w) (by kernel_rfl) (by kernel_rfl) HN.out.drew ?_
    intro T0 _ W HW HW2
    have g0 : ∀ t, (W t).cell? _ = _ := fun t => ((HW t).1.cell (p := ⟨b, off, none⟩) hbl).trans e0
    have g1 : ∀ t, (W t).cell? _ = _ := fun t => ((HW t).1.cell (p := ⟨b, off + 1, none⟩) hbl).trans e1
    have g2 : ∀ t, (W t).cell? _ = _ := fun t => ((HW t).1.cell (p := ⟨b, off + 2, none⟩) hbl).trans e2
    have g3 : ∀ t, (W t).cell? _ = _ := fun t => ((HW t).1.cell (p := ⟨b, off + 3, none⟩) hbl).trans e3
    have g4 : ∀ t, (W t).cell? _ = _ := fun t => ((HW t).1.cell (p := ⟨b, off + 4, none⟩) hbl).trans e4
    have j0 : ∀ t, (W t).cell? _ = _ := fun t => ((HW t).1.cell (p := ⟨b, off + 5, none⟩) hbl).trans f0
    have j1 : ∀ t, (W t).cell? _ = _ := fun t => ((HW t).1.cell (p := ⟨b, off + 6, none⟩) hbl).trans f1
    have j2 : ∀ t, (W t).cell? _ = _ := fun t => ((HW t).1.cell (p := ⟨b, off + 7, none⟩) hbl).trans f2
    have j3 : ∀ t, (W t).cell? _ = _ := fun t => ((HW t).1.cell (p := ⟨b, off + 8, none⟩) hbl).trans f3
    have j4 : ∀ t, (W t).cell? _ = _ := fun t => ((HW t).1.cell (p := ⟨b, off + 9, none⟩) hbl).trans f4
    have HWH := Lib.hid HW
    clear HW HW2
    repeat (go_big_quiet_step (fail))
    refine wpQuiet_nil ?_
    intro t
    have hbox := (HWH.out t).2.1
    obtain ⟨q0, q1, q2, q3, q4⟩ := hbox.cells
    obtain ⟨z0, z1, z2, z3, z4⟩ := hbox.free
    have hlt := hbox.lt
    obtain ⟨r0, r1, r2, r3, r4⟩ := (hbox.set (.int .i64 0) (.int .i64 0) (.int .i64 0) (.string ⟨#[]⟩) (.slice none 0 0)).cells
    have HBF := Lib.hid ((HWH.out t).1.trans (set5_below (W t) w.heap.size w.heap.size (.int .i64 0) (.int .i64 0) (.int .i64 0) (.string ⟨#[]⟩) (.slice none 0 0) (Nat.le_refl _)))
    go_wp2_with fail
    rw [← HR.out]
    exact bodyPost_ret (v := .tuple #[leafV 0 0 0, .int .i64 3]) (by simp [results, Tryz.results32, go_sem, leafV, r0, r1, r2, r3, r4]) rfl (endPost_leaf (by omega) (by skip <;> omega) (by omega) rfl HBF.out)
  · have HR := Lib.hid (show (Prims.zeroD, (3 : Int)) = R by
      rw [← hR, does_22_eq, Prims.at', if_neg (by simp [Dat.kind]), if_pos]
      show (1 : Int) ≠ 1 ∨ n2 < 0 ∨ (l'.length : Int) ≤ n2
      rw [← HL.out]
      omega)
    clear hR
    have k7 : decide (n2 < 0) = false := by simpa using hd
    have k8 : decide ((len' : Int) ≤ n2) = true := by simpa using hd2
    go_enter Tryz.func32, Tryz.ntmps32
    go_wp2_with fail
    refine wp_region_quiet_all (ClsZ w) (by kernel_rfl) (by kernel_rfl) HN.out.drew ?_
    intro T0 _ W HW HW2
    have g0 : ∀ t, (W t).cell? _ = _ := fun t => ((HW t).1.cell (p := ⟨b, off, none⟩) hbl).trans e0
    have g1 : ∀ t, (W t).cell? _ = _ := fun t => ((HW t).1.cell (p := ⟨b, off + 1, none⟩) hbl).trans e1
    have g2 : ∀ t, (W t).cell? _ = _ := fun t => ((HW t).1.cell (p := ⟨b, off + 2, none⟩) hbl).trans e2
    have g3 : ∀ t, (W t).cell? _ = _ := fun t => ((HW t).1.cell (p := ⟨b, off + 3, none⟩) hbl).trans e3
    have g4 : ∀ t, (W t).cell? _ = _ := fun t => ((HW t).1.cell (p := ⟨b, off + 4, none⟩) hbl).trans e4
    have j0 : ∀ t, (W t).cell? _ = _ := fun t => ((HW t).1.cell (p := ⟨b, off + 5, none⟩) hbl).trans f0
    have j1 : ∀ t, (W t).cell? _ = _ := fun t => ((HW t).1.cell (p := ⟨b, off + 6, none⟩) hbl).trans f1
    have j2 : ∀ t, (W t).cell? _ = _ := fun t => ((HW t).1.cell (p := ⟨b, off + 7, none⟩) hbl).trans f2
    have j3 : ∀ t, (W t).cell? _ = _ := fun t => ((HW t).1.cell (p := ⟨b, off + 8, none⟩) hbl).trans f3
    have j4 : ∀ t, (W t).cell? _ = _ := fun t => ((HW t).1.cell (p := ⟨b, off + 9, none⟩) hbl).trans f4
    have HWH := Lib.hid HW
    clear HW HW2
    repeat (go_big_quiet_step (fail))
    refine wpQuiet_nil ?_
    intro t
    have hbox := (HWH.out t).2.1
    obtain ⟨q0, q1, q2, q3, q4⟩ := hbox.cells
    obtain ⟨z0, z1, z2, z3, z4⟩ := hbox.free
    have hlt := hbox.lt
    obtain ⟨r0, r1, r2, r3, r4⟩ := (hbox.set (.int .i64 0) (.int .i64 0) (.int .i64 0) (.string ⟨#[]⟩) (.slice none 0 0)).cells
    have HBF := Lib.hid ((HWH.out t).1.trans (set5_below (W t) w.heap.size w.heap.size (.int .i64 0) (.int .i64 0) (.int .i64 0) (.string ⟨#[]⟩) (.slice none 0 0) (Nat.le_refl _)))
    go_wp2_with fail
    rw [← HR.out]
    exact bodyPost_ret (v := .tuple #[leafV 0 0 0, .int .i64 3]) (by simp [results, Tryz.results32, go_sem, leafV, r0, r1, r2, r3, r4]) rfl (endPost_leaf (by omega) (by skip <;> omega) (by omega) rfl HBF.out)
  · obtain ⟨j, rfl⟩ : ∃ j : Nat, n2 = j := ⟨n2.toNat, by omega⟩
    have hjl : j < len' := by omega
    obtain ⟨z, hz⟩ : ∃ z, l'[j]? = some z := ⟨_, List.getElem?_eq_getElem (by rw [← HL.out]; exact hjl)⟩
    have HR := Lib.hid (show (z, (0 : Int)) = R by
      rw [← hR, does_22_eq, Prims.at', if_neg (by simp [Dat.kind]), if_neg (by show ¬ ((1 : Int) ≠ 1 ∨ (j : Int) < 0 ∨ (l'.length : Int) ≤ j); rw [← HL.out]; omega)]
      show (z, (0 : Int)) = (l'.getD (j : Int).toNat Prims.zeroD, (0 : Int))
      rw [Int.toNat_natCast, List.getD_eq_getElem?_getD, hz]; rfl)
    obtain ⟨b1, off1, k1, n1, d1, s1, l1, o1, len1, cap1, ho1, hx1, p0, p1, p2, p3, p4, fr⟩ := part_atS HS.out (Below.refl _ _) hz
    subst ho1 hx1
    have hbl1 := cell_lt p0
    have F1 := Lib.hid fr
    have k7 : decide ((j : Int) < 0) = false := by simp
    have k8 : decide ((len' : Int) ≤ (j : Int)) = false := by simp; omega
    clear hR hz fr
    go_enter Tryz.func32, Tryz.ntmps32
    go_wp2_with fail
    refine wp_region_quiet_all (ClsZ w) (by kernel_rfl) (by kernel_rfl) HN.out.drew ?_
    intro T0 _ W HW HW2
    have g0 : ∀ t, (W t).cell? _ = _ := fun t => ((HW t).1.cell (p := ⟨b, off, none⟩) hbl).trans e0
    have g1 : ∀ t, (W t).cell? _ = _ := fun t => ((HW t).1.cell (p := ⟨b, off + 1, none⟩) hbl).trans e1
    have g2 : ∀ t, (W t).cell? _ = _ := fun t => ((HW t).1.cell (p := ⟨b, off + 2, none⟩) hbl).trans e2
    have g3 : ∀ t, (W t).cell? _ = _ := fun t => ((HW t).1.cell (p := ⟨b, off + 3, none⟩) hbl).trans e3
    have g4 : ∀ t, (W t).cell? _ = _ := fun t => ((HW t).1.cell (p := ⟨b, off + 4, none⟩) hbl).trans e4
    have j0 : ∀ t, (W t).cell? _ = _ := fun t => ((HW t).1.cell (p := ⟨b, off + 5, none⟩) hbl).trans f0
    have j1 : ∀ t, (W t).cell? _ = _ := fun t => ((HW t).1.cell (p := ⟨b, off + 6, none⟩) hbl).trans f1
    have j2 : ∀ t, (W t).cell? _ = _ := fun t => ((HW t).1.cell (p := ⟨b, off + 7, none⟩) hbl).trans f2
    have j3 : ∀ t, (W t).cell? _ = _ := fun t => ((HW t).1.cell (p := ⟨b, off + 8, none⟩) hbl).trans f3
    have j4 : ∀ t, (W t).cell? _ = _ := fun t => ((HW t).1.cell (p := ⟨b, off + 9, none⟩) hbl).trans f4
    have HWH := Lib.hid HW
    clear HW HW2
    repeat (go_big_quiet_step (fail))
    refine wpQuiet_nil ?_
    intro t
    have HWT := Lib.hid (HWH.out t)
    clear g0 g1 g2 g3 g4 j0 j1 j2 j3 j4 HWH
    go_wp2_with fail
    refine wp_region_quiet_class (ClsZ w) 10 (by kernel_rfl) (by kernel_rfl) HWT.out.drew ?_
    intro T1 _ W HW HW2
    have g0 : ∀ t, (W t).cell? _ = _ := fun t => ((HW t).1.cell (p := ⟨b, off, none⟩) hbl).trans e0
    have g1 : ∀ t, (W t).cell? _ = _ := fun t => ((HW t).1.cell (p := ⟨b, off + 1, none⟩) hbl).trans e1
    have g2 : ∀ t, (W t).cell? _ = _ := fun t => ((HW t).1.cell (p := ⟨b, off + 2, none⟩) hbl).trans e2
    have g3 : ∀ t, (W t).cell? _ = _ := fun t => ((HW t).1.cell (p := ⟨b, off + 3, none⟩) hbl).trans e3
    have g4 : ∀ t, (W t).cell? _ = _ := fun t => ((HW t).1.cell (p := ⟨b, off + 4, none⟩) hbl).trans e4
    have j0 : ∀ t, (W t).cell? _ = _ := fun t => ((HW t).1.cell (p := ⟨b, off + 5, none⟩) hbl).trans f0
    have j1 : ∀ t, (W t).cell? _ = _ := fun t => ((HW t).1.cell (p := ⟨b, off + 6, none⟩) hbl).trans f1
    have j2 : ∀ t, (W t).cell? _ = _ := fun t => ((HW t).1.cell (p := ⟨b, off + 7, none⟩) hbl).trans f2
    have j3 : ∀ t, (W t).cell? _ = _ := fun t => ((HW t).1.cell (p := ⟨b, off + 8, none⟩) hbl).trans f3
    have j4 : ∀ t, (W t).cell? _ = _ := fun t => ((HW t).1.cell (p := ⟨b, off + 9, none⟩) hbl).trans f4
    have m0 : ∀ t, (W t).cell? _ = _ := fun t => ((HW t).1.cell (p := ⟨b1, off1 + j * 5, none⟩) hbl1).trans p0
    have m1 : ∀ t, (W t).cell? _ = _ := fun t => ((HW t).1.cell (p := ⟨b1, off1 + j * 5 + 1, none⟩) hbl1).trans p1
    have m2 : ∀ t, (W t).cell? _ = _ := fun t => ((HW t).1.cell (p := ⟨b1, off1 + j * 5 + 2, none⟩) hbl1).trans p2
    have m3 : ∀ t, (W t).cell? _ = _ := fun t => ((HW t).1.cell (p := ⟨b1, off1 + j * 5 + 3, none⟩) hbl1).trans p3
    have m4 : ∀ t, (W t).cell? _ = _ := fun t => ((HW t).1.cell (p := ⟨b1, off1 + j * 5 + 4, none⟩) hbl1).trans p4
    have HWH := Lib.hid HW
    clear HW HW2
    simp only [List.take_succ_cons, List.take_zero, List.drop_succ_cons, List.drop_zero]
    repeat (go_big_quiet_step (fail))
    refine wpQuiet_nil ?_
    intro t
    have hbox := (HWH.out t).2.1
    obtain ⟨q0, q1, q2, q3, q4⟩ := hbox.cells
    obtain ⟨z0, z1, z2, z3, z4⟩ := hbox.free
    have hlt := hbox.lt
    obtain ⟨r0, r1, r2, r3, r4⟩ := (hbox.set (.int .i64 k1) (.int .i64 n1) (.int .i64 d1) (.string s1) (.slice o1 len1 cap1)).cells
    have HBF := Lib.hid ((HWH.out t).1.trans (set5_below (W t) w.heap.size w.heap.size (.int .i64 k1) (.int .i64 n1) (.int .i64 d1) (.string s1) (.slice o1 len1 cap1) (Nat.le_refl _)))
    go_wp2_with fail
    rw [← HR.out]
    exact bodyPost_ret (v := .tuple #[.agg #[.int .i64 k1, .int .i64 n1, .int .i64 d1, .string s1, .slice o1 len1 cap1], .int .i64 0]) (by simp [results, Tryz.results32, go_sem, r0, r1, r2, r3, r4]) rfl ⟨k1, n1, d1, s1, o1, len1, cap1, rfl, F1.out.kept (HBF.out.mono hB), HBF.out⟩

set_option maxHeartbeats 2000000 in
set_option maxRecDepth 100000 in
theorem rdoes_23 (l : List Dat) (sl : Value) (B : Nat) (w : World) (hv : RepS w B l sl) (_hB : B ≤ w.heap.size) (hr : ∀ x ∈ l, Dat.right x 0 = true) (hl : l.length = 1) :
    Calls Tryz.prog 32 #[.int .i64 23, sl] w (EndPost B (Prims.does 23 l) w) := by
  obtain ⟨x, rfl⟩ : ∃ x, l = [x] := by
    match l, hl with
    | [x], _ => exact ⟨x, rfl⟩
  have hrx := hr x (by simp)
  obtain ⟨o, len, cap, rfl, hlen, hcap, hmax⟩ := slice_of hv
  obtain rfl : len = 1 := hlen
  obtain ⟨b, off, k, n, d, s, l', o', len', cap', ho, hx, e0, e1, e2, e3, e4, er⟩ := part_atS hv (Below.refl _ _) (j := 0) rfl
  subst ho hx
  simp only [Nat.zero_mul, Nat.add_zero] at e0 e1 e2 e3 e4
  have hbl := cell_lt e0
  have ER := Lib.hid er
  have HRX := Lib.hid hrx

  obtain ⟨R, hR⟩ : ∃ R, Prims.does 23 [Dat.mk k n d s l'] = R := ⟨_, rfl⟩
  rw [hR]
  have HK := Lib.hid (fun X => (Below.refl w.heap.size w).alloc (Nat.le_refl _) X)
  have HN := Lib.hid (ClsZ.new w)
  have HV := Lib.hid hv
  clear hv er hrx hr hl
  by_cases hk : k ≠ 7
  · have k7 : (k != 7) = true := by simpa using hk
    have HR := Lib.hid (show (Prims.zeroD, (1 : Int)) = R by rw [← hR]; simp [Prims.does, hk, Dat.kind])
    clear hR HV ER HRX
    go_enter Tryz.func32, Tryz.ntmps32
    go_wp2_with fail
    rw [← HR.out]
    exact bodyPost_ret (v := .tuple #[leafV 0 0 0, .int .i64 1]) (by simp [results, Tryz.results32, go_sem, leafV]) rfl (endPost_leaf (by omega) (by omega) (by omega) rfl (HK.out _))
  obtain rfl : k = 7 := by omega
  obtain ⟨_, hv2, _, _, _, _, hs⟩ := ER.out.open
  simp only [Value.agg.injEq, Array.mk.injEq, List.cons.injEq, and_true, true_and] at hv2
  obtain rfl := hv2
  have hl2 : len' = l'.length ∧ len' ≤ 9223372036854775807 := by obtain ⟨_, _, _, he, h2, h3, h4, _⟩ := hs; simp only [Value.slice.injEq] at he; rw [he.2.1]; exact ⟨h2, Nat.le_trans h3 h4⟩
  have HR := Lib.hid (show (Prims.num len' 1, (0 : Int)) = R by rw [← hR, hl2.1]; simp [Prims.does, Dat.kind, Dat.l])
  have hlm := hl2.2
  clear hR HV HRX hs hl2
  go_enter Tryz.func32, Tryz.ntmps32
  go_wp2_with fail
  refine (rnumber_any len' _).mono ?_
  rintro e1 w1 ⟨rfl, hb1⟩
  simp only [leafV]
  have HC1 := Lib.hid ((HN.out).next hb1)
  clear hb1
  have hbox := (HC1.out).2.1
  obtain ⟨q0, q1, q2, q3, q4⟩ := hbox.cells
  obtain ⟨z0, z1, z2, z3, z4⟩ := hbox.free
  have hlt := hbox.lt
  obtain ⟨r0, r1, r2, r3, r4⟩ := (hbox.set (.int .i64 0) (.int .i64 len') (.int .i64 1) (.string ⟨#[]⟩) (.slice none 0 0)).cells
  have HBF := Lib.hid ((HC1.out).1.trans (set5_below w1 w.heap.size w.heap.size (.int .i64 0) (.int .i64 len') (.int .i64 1) (.string ⟨#[]⟩) (.slice none 0 0) (Nat.le_refl _)))
  go_wp2_with fail
  rw [← HR.out]
  exact bodyPost_ret (v := .tuple #[leafV 0 len' 1, .int .i64 0]) (by simp [results, Tryz.results32, go_sem, leafV, r0, r1, r2, r3, r4]) rfl (endPost_leaf (by omega) (by skip <;> omega) (by omega) rfl HBF.out)

set_option maxHeartbeats 2000000 in
set_option maxRecDepth 100000 in
theorem rdoes_24 (l : List Dat) (sl : Value) (B : Nat) (w : World) (hv : RepS w B l sl) (hB : B ≤ w.heap.size) (hr : ∀ x ∈ l, Dat.right x 0 = true) (hl : l.length = 1) :
    Calls Tryz.prog 32 #[.int .i64 24, sl] w (EndPost B (Prims.does 24 l) w) := by
  obtain ⟨x, rfl⟩ : ∃ x, l = [x] := by
    match l, hl with
    | [x], _ => exact ⟨x, rfl⟩
  have hrx := hr x (by simp)
  obtain ⟨o, len, cap, rfl, hlen, hcap, hmax⟩ := slice_of hv
  obtain rfl : len = 1 := hlen
  obtain ⟨b, off, k, n, d, s, l', o', len', cap', ho, hx, e0, e1, e2, e3, e4, er⟩ := part_atS hv (Below.refl _ _) (j := 0) rfl
  subst ho hx
  simp only [Nat.zero_mul, Nat.add_zero] at e0 e1 e2 e3 e4
  have hbl := cell_lt e0
  have ER := Lib.hid er
  have HRX := Lib.hid hrx

  obtain ⟨R, hR⟩ : ∃ R, Prims.does 24 [Dat.mk k n d s l'] = R := ⟨_, rfl⟩
  rw [hR]
  have HK := Lib.hid (fun X => (Below.refl w.heap.size w).alloc (Nat.le_refl _) X)
  have HN := Lib.hid (ClsZ.new w)
  have HV := Lib.hid hv
  clear hv er hrx hr hl
  obtain ⟨it, hit⟩ : ∃ it, Dat.items (.mk k n d s l') = it := ⟨_, rfl⟩
  have HIT := Lib.hid (fun W (hb : Below w.heap.size w W) => ritems_any (.mk k n d s l') _ B W (ER.out.kept (hb.mono hB)) (Nat.le_trans hB hb.size))
  rw [if_pos HRX.out, hit] at HIT
  have hR2 := hR
  cases it with
  | none =>
    have HR := Lib.hid (show (Prims.zeroD, (1 : Int)) = R by rw [← hR]; simp [Prims.does, hit])
    clear hR hR2 HV HRX hit
    go_enter Tryz.func32, Tryz.ntmps32
    go_wp2_with fail
    refine (HIT.out _ HN.out.1).mono ?_
    rintro e1 w1 ⟨v1, l1, rfl, hl1, hs1, hb1⟩
    simp only [Option.isSome_none]
    have HC1 := Lib.hid (HN.out.next hb1)
    clear hb1 hl1 hs1
    have hbox := (HC1.out).2.1
    obtain ⟨q0, q1, q2, q3, q4⟩ := hbox.cells
    obtain ⟨z0, z1, z2, z3, z4⟩ := hbox.free
    have hlt := hbox.lt
    obtain ⟨r0, r1, r2, r3, r4⟩ := (hbox.set (.int .i64 0) (.int .i64 0) (.int .i64 0) (.string ⟨#[]⟩) (.slice none 0 0)).cells
    have HBF := Lib.hid ((HC1.out).1.trans (set5_below w1 w.heap.size w.heap.size (.int .i64 0) (.int .i64 0) (.int .i64 0) (.string ⟨#[]⟩) (.slice none 0 0) (Nat.le_refl _)))
    go_wp2_with fail
    rw [← HR.out]
    exact bodyPost_ret (v := .tuple #[leafV 0 0 0, .int .i64 1]) (by simp [results, Tryz.results32, go_sem, leafV, r0, r1, r2, r3, r4]) rfl (endPost_leaf (by omega) (by skip <;> omega) (by omega) rfl HBF.out)
  | some it =>
    have HR := Lib.hid (show (Prims.num it.length 1, (0 : Int)) = R by rw [← hR]; simp [Prims.does, hit])
    clear hR hR2 HV HRX hit
    go_enter Tryz.func32, Tryz.ntmps32
    go_wp2_with fail
    refine (HIT.out _ HN.out.1).mono ?_
    rintro e1 w0 ⟨v1, l1, rfl, hl1, hs1, hb0⟩
    obtain rfl : l1 = it := hl1
    simp only [Option.isSome_some]
    have HN0 := Lib.hid (HN.out.next hb0)
    obtain ⟨o1, len1, cap1, rfl, hlen1, hcap1, hmax1⟩ := slice_at hs1
    rw [← hlen1] at HR
    clear hb0 hs1 hlen1
    go_wp2_with fail
    refine (rnumber_any len1 _).mono ?_
    rintro e1 w1 ⟨rfl, hb1⟩
    simp only [leafV]
    have HC1 := Lib.hid ((HN0.out).next hb1)
    clear hb1
    have hbox := (HC1.out).2.1
    obtain ⟨q0, q1, q2, q3, q4⟩ := hbox.cells
    obtain ⟨z0, z1, z2, z3, z4⟩ := hbox.free
    have hlt := hbox.lt
    obtain ⟨r0, r1, r2, r3, r4⟩ := (hbox.set (.int .i64 0) (.int .i64 len1) (.int .i64 1) (.string ⟨#[]⟩) (.slice none 0 0)).cells
    have HBF := Lib.hid ((HC1.out).1.trans (set5_below w1 w.heap.size w.heap.size (.int .i64 0) (.int .i64 len1) (.int .i64 1) (.string ⟨#[]⟩) (.slice none 0 0) (Nat.le_refl _)))
    go_wp2_with fail
    rw [← HR.out]
    exact bodyPost_ret (v := .tuple #[leafV 0 len1 1, .int .i64 0]) (by simp [results, Tryz.results32, go_sem, leafV, r0, r1, r2, r3, r4]) rfl (endPost_leaf (by omega) (by skip <;> omega) (by omega) rfl HBF.out)

set_option maxHeartbeats 2000000 in
set_option maxRecDepth 100000 in
theorem rdoes_25 (sl : Value) (B : Nat) (w : World) (hv : RepS w B [] sl) (_hB : B ≤ w.heap.size) :
    Calls Tryz.prog 32 #[.int .i64 25, sl] w (EndPost B (Prims.does 25 []) w) := by
  obtain ⟨o, len, cap, rfl, hlen, hcap, hmax⟩ := slice_of hv
  obtain ⟨R, hR⟩ : ∃ R, Prims.does 25 [] = R := ⟨_, rfl⟩
  rw [hR]
  have HR := Lib.hid (show (Prims.voidD, (0 : Int)) = R by rw [← hR]; simp [Prims.does])
  clear hR hv
  have HK := Lib.hid (fun X => (Below.refl w.heap.size w).alloc (Nat.le_refl _) X)
  go_enter Tryz.func32, Tryz.ntmps32
  go_wp2_with fail
  rw [← HR.out]
  exact bodyPost_ret (v := .tuple #[leafV 5 0 0, .int .i64 0]) (by simp [results, Tryz.results32, go_sem, leafV]) rfl (endPost_leaf (by omega) (by omega) (by omega) rfl (HK.out _))
end Go.Proofs.YtnpiekniignfcaaGreatDoor
