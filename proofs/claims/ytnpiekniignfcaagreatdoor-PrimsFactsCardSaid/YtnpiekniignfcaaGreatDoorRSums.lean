/-
  The contracts of corbelref05.sums.
-/
import Derived.Test.YtnpiekniignfcaaGreatDoorSums
import Derived.Test.YtnpiekniignfcaaGreatDoorREqual
namespace Go.Proofs.YtnpiekniignfcaaGreatDoor
open Go.RowKit

theorem any_kind_true {l : List Dat} {j : Nat} {x : Dat} (hx : l[j]? = some x) (h : x.kind ≠ 0) : (l.any fun x => decide (x.kind ≠ 0)) = true :=
  List.any_eq_true.2 ⟨x, List.mem_of_getElem? hx, decide_eq_true h⟩
theorem any_kind_false {l : List Dat} (h : ∀ (i : Nat) (x : Dat), l[i]? = some x → x.kind = 0) : (l.any fun x => decide (x.kind ≠ 0)) = false := by
  rw [List.any_eq_false]
  intro x hx
  obtain ⟨i, hi⟩ := List.getElem?_of_mem hx
  simp [h i x hi]

set_option maxHeartbeats 4000000 in
set_option maxRecDepth 100000 in
theorem rsums_0 (l : List Dat) (sl : Value) (B : Nat) (w : World) (hv : RepS w B l sl) (hB : B ≤ w.heap.size) (B2 : Nat) :
    Calls Tryz.prog 56 #[.int .i64 0, sl] w (EndPost B2 (Prims.sums 0 l) w) := by
  obtain ⟨o, len, cap, rfl, hl, hcap, hmax, hc⟩ := hv.wider hB
  obtain ⟨R, hR⟩ : ∃ R, Prims.sums 0 l = R := ⟨_, rfl⟩
  rw [hR]
  have HRT := Lib.hid (show (l.any fun x => decide (x.kind ≠ 0)) = true → (Prims.zeroD, 1) = R by intro h; rw [← hR, Prims.sums, if_pos h])
  have HRF := Lib.hid (show (l.any fun x => decide (x.kind ≠ 0)) = false → Prims.sumsR 0 l = R by intro h; rw [← hR, Prims.sums, h]; simp)
  have HC := Lib.hid hc
  have HL := Lib.hid hl
  clear hc hl hR hv
  have HK := Lib.hid (show Below w.heap.size w (w.alloc (.cells #[.int .i64 0, .int .i64 0, .int .i64 0, .string ⟨#[]⟩, .slice none 0 0] 26)) ∧ Box5 (w.alloc (.cells #[.int .i64 0, .int .i64 0, .int .i64 0, .string ⟨#[]⟩, .slice none 0 0] 26)) w.heap.size 26 (.int .i64 0) (.int .i64 0) (.int .i64 0) (.string ⟨#[]⟩) (.slice none 0 0) from ⟨(Below.refl w.heap.size w).alloc (Nat.le_refl _) _, Box5.new _ _ _ _ _ _ _⟩)
  go_enter Tryz.func56, Tryz.ntmps56
  go_wp2_with fail
  go_loopg [6] len (fun g q wr => ∃ j : Nat, g = len - j ∧ j ≤ len ∧ q = .int .i64 j ∧ Hid (∀ (i : Nat) (x : Dat), i < j → l[i]? = some x → x.kind = 0) ∧ Hid (Below w.heap.size w wr ∧ Box5 wr w.heap.size 26 (.int .i64 0) (.int .i64 0) (.int .i64 0) (.string ⟨#[]⟩) (.slice none 0 0)))
  case atStart => exact ⟨0, rfl, by omega, rfl, Lib.hid (fun i x h => absurd h (by omega)), HK⟩
  case round =>
    obtain ⟨j, rfl, hj, rfl, HA, HBX⟩ := hrel
    by_cases hjl : j < len
    · obtain ⟨x, hx⟩ : ∃ x, l[j]? = some x := ⟨_, List.getElem?_eq_getElem (by rw [← HL.out]; exact hjl)⟩
      obtain ⟨b1, off1, k1, n1, d1, s1, l1, o1, len1, cap1, ho1, hx1, e0, e1, e2, e3, e4, er⟩ := part_at2 HC.out HBX.out.1 hx
      subst ho1 hx1
      have HX := Lib.hid hx
      have hbl := cell_lt e0
      clear hx er e1 e2 e3 e4
      by_cases hk : k1 = 0
      · subst hk
        go_wp2_with fail
        go_roundg (len - (j + 1))
        case measure => omega
        case rel =>
          refine ⟨j + 1, rfl, by omega, by go_num, Lib.hid ?_, HBX⟩
          intro i x hi hx
          by_cases hij : i < j
          · exact HA.out i x hij hx
          · obtain rfl : i = j := by omega
            have := HX.out.symm.trans hx
            simp only [Option.some.injEq] at this
            rw [← this]; rfl
      · have hk2 : (k1 != 0) = true := by simpa using hk
        obtain rfl : (Prims.zeroD, 1) = R := HRT.out (any_kind_true HX.out hk)
        have hbx3 := HBX.out.2
        obtain ⟨y0, y1, y2, y3, y4⟩ := hbx3.cells
        obtain ⟨v0, v1, v2, v3, v4⟩ := hbx3.free
        have hltM := hbx3.lt
        obtain ⟨r0, r1, r2, r3, r4⟩ := (hbx3.set (.int .i64 0) (.int .i64 0) (.int .i64 0) (.string ⟨#[]⟩) (.slice none 0 0)).cells
        have HB5 := Lib.hid (HBX.out.1.trans (set5_below wr w.heap.size w.heap.size (.int .i64 0) (.int .i64 0) (.int .i64 0) (.string ⟨#[]⟩) (.slice none 0 0) (Nat.le_refl _)))
        go_wp2_with fail
        exact bodyPost_ret (v := .tuple #[leafV 0 0 0, .int .i64 1]) (by simp [results, Tryz.results56, go_sem, leafV, r0, r1, r2, r3, r4]) rfl (endPost_leaf (by omega) (by omega) (by omega) rfl HB5.out)
    · have HRS := Lib.hid (HRF.out (any_kind_false (fun i x hx => HA.out i x (by have := (List.getElem?_eq_some_iff.1 hx).1; rw [← HL.out] at this; omega) hx)))
      clear HA HRT HRF
      obtain rfl : len = j := by omega
      clear hj
      go_wp2_with fail
      refine (rnumber_any _ _).mono ?_
      rintro e1 w2 ⟨rfl, hb2⟩
      have HX0 := Lib.hid (show Box5 w2 w.heap.size 26 (.int .i64 0) (.int .i64 0) (.int .i64 0) (.string ⟨#[]⟩) (.slice none 0 0) from (hb2.block _ HBX.out.2.lt).trans HBX.out.2)
      have HB2 := Lib.hid (Below.next HBX.out.1 hb2)
      have hs2 := HB2.out.size
      have hlt0 := HX0.out.lt
      clear hb2
      unfold leafV
      obtain ⟨H6, hH6⟩ : ∃ H6, w2.heap.size = H6 := ⟨_, rfl⟩
      have HH6 := Lib.hid hH6
      have hH6b : w.heap.size < H6 := by omega
      clear hH6
      go_upto_region 9 with fail
      try rw [HH6.out]
      obtain ⟨W3, hW3⟩ : ∃ W3, w2.alloc (.cells #[.int .i64 0, .int .i64 0, .int .i64 1, .string ⟨#[]⟩, .slice none 0 0] 26) = W3 := ⟨_, rfl⟩
      have hb6 : Box5 W3 H6 26 (.int .i64 0) (.int .i64 0) (.int .i64 1) (.string ⟨#[]⟩) (.slice none 0 0) := by rw [← hW3, ← HH6.out]; exact Box5.new _ _ _ _ _ _ _
      have HX3 := Lib.hid (show Box5 W3 w.heap.size 26 (.int .i64 0) (.int .i64 0) (.int .i64 0) (.string ⟨#[]⟩) (.slice none 0 0) by rw [← hW3]; exact HX0.out.alloc _)
      have HB3 := Lib.hid (show Below w.heap.size w W3 by rw [← hW3]; exact HB2.out.alloc hs2 _)
      rw [hW3]
      clear hW3 hs2
      have HI0 := Lib.hid (show SumsI 0 R l false w.heap.size H6 w 0 W3 from ⟨⟨0, 1, 0, ⟨#[]⟩, none, 0, 0, hb6, by omega, by omega, .inr ⟨rfl, rfl, rfl, rfl, rfl⟩, by rw [← HRS.out]; simp [Prims.sumsR]⟩, HX3.out, HB3.out⟩)
      clear hb6
      go_wp2_with fail

      go_loopg [8] len (fun g q wr => ∃ j : Nat, g = len - j ∧ j ≤ len ∧ q = .int .i64 j ∧ SumsI 0 R l false w.heap.size H6 w j wr)
      case atStart => exact ⟨0, rfl, by omega, rfl, HI0.out⟩
      case round =>
        obtain ⟨j, rfl, hj, rfl, ⟨a, b, ka, sa, oa, la, ca, hbox, hab, hbb, hlf, hR⟩, hbx0, hb⟩ := hrel
        have HR2 := Lib.hid hR
        have HX := Lib.hid hbox
        have HX0 := Lib.hid hbx0
        have HB := Lib.hid hb
        have HLF := Lib.hid hlf
        have hlt := hbox.lt
        have hsz := hb.size
        clear hbx0 hb hlf hR
        by_cases hjl : j < len
        · obtain ⟨x, hx⟩ : ∃ x, l[j]? = some x := ⟨_, List.getElem?_eq_getElem (by rw [← HL.out]; exact hjl)⟩
          obtain ⟨b1, off1, k1, n1, d1, s1, l1, o1, len1, cap1, ho1, hx1, e0, e1, e2, e3, e4, er⟩ := part_at2 HC.out HB.out hx
          subst ho1
          skip
          subst hx1
          obtain ⟨_, _, _, bn1, bd1, _, _⟩ := er.open
          have HXX := Lib.hid hx
          have hbl := cell_lt e0
          obtain ⟨p, q, z, hs⟩ : ∃ p q z, Prims.step 0 a b n1 d1 = (p, q, z) := ⟨_, _, _, rfl⟩
          have HS := Lib.hid (show Num.add a b n1 d1 = (p, q, z) by rw [← hs]; rfl)
          have bds := step_bd hs
          have HRS := Lib.hid ((sumsL_step HXX.out hs).symm.trans HR2.out)
          have HD := Lib.hid ((Below.refl wr.heap.size wr).drew)
          have E0 := Lib.hid e1
          have E1 := Lib.hid e2
          clear hx er hs e0 e1 e2 e3 e4 hbox
          go_wp2_with fail
          refine wp_region_quiet_all (Below wr.heap.size wr) (by kernel_rfl) (by kernel_rfl) HD.out ?_
          intro T0 _ W HW HW2
          have g1 : ∀ t, (W t).cell? _ = _ := fun t => ((HW t).cell (p := ⟨H6, 1, none⟩) hlt).trans HX.out.cells.2.1
          have g2 : ∀ t, (W t).cell? _ = _ := fun t => ((HW t).cell (p := ⟨H6, 2, none⟩) hlt).trans HX.out.cells.2.2.1
          have j1 : ∀ t, (W t).cell? _ = _ := fun t => ((HW t).cell (p := ⟨_, _, none⟩) hbl).trans E0.out
          have j2 : ∀ t, (W t).cell? _ = _ := fun t => ((HW t).cell (p := ⟨_, _, none⟩) hbl).trans E1.out
          have HC0 : Hid (∀ t, Calls Tryz.prog 73 #[.int .i64 a, .int .i64 b, .int .i64 n1, .int .i64 d1] (W t) fun e w' => e = .returned (.tuple #[.int .i64 p, .int .i64 q, .int .i64 z]) ∧ ∃ t', w' = W t') := Lib.hid (fun t => (radd_to a b n1 d1 p q z HS.out hab.1 hab.2 hbb.1 hbb.2 bn1.1 bn1.2 bd1.1 bd1.2 (W t)).mono fun e w' h => ⟨h.1, by obtain ⟨_, m, hm⟩ := h; exact HW2 _ (by rw [hm]; exact Below.drewN (HW t) m)⟩)
          have HWH := Lib.hid HW
          clear HW HW2
          repeat (go_big_quiet_step (first | (go_at_call 73; exact HC0.out _)))
          refine wpQuiet_nil ?_
          intro t
          have hbox3 : Box5 (W t) H6 26 (.int .i64 ka) (.int .i64 a) (.int .i64 b) (.string sa) (.slice oa la ca) := ((HWH.out t).block _ hlt).trans HX.out
          have hbx3 : Box5 (W t) w.heap.size 26 (.int .i64 0) (.int .i64 0) (.int .i64 0) (.string ⟨#[]⟩) (.slice none 0 0) := ((HWH.out t).block _ HX0.out.lt).trans HX0.out
          have HB3 := Lib.hid (Below.next HB.out (HWH.out t))
          have hs3 := HB3.out.size
          clear g1 g2 j1 j2
          by_cases hz : z = 0
          · subst hz
            have HN := Lib.hid (hbox3.set (.int .i64 0) (.int .i64 p) (.int .i64 q) (.string ⟨#[]⟩) (.slice none 0 0))
            have HM := Lib.hid (show Box5 (set5 (W t) H6 (.int .i64 0) (.int .i64 p) (.int .i64 q) (.string ⟨#[]⟩) (.slice none 0 0)) w.heap.size 26 (.int .i64 0) (.int .i64 0) (.int .i64 0) (.string ⟨#[]⟩) (.slice none 0 0) from (set5_heap _ _ _ _ _ _ _ (by omega)).trans hbx3)
            have HB4 := Lib.hid (HB3.out.trans (set5_below (W t) H6 w.heap.size (.int .i64 0) (.int .i64 p) (.int .i64 q) (.string ⟨#[]⟩) (.slice none 0 0) (by omega)))
            obtain ⟨q0, q1, q2, q3, q4⟩ := hbox3.cells
            obtain ⟨z0, z1, z2, z3, z4⟩ := hbox3.free
            have hlt3 := hbox3.lt
            go_wp2_with fail
            go_roundg (len - (j + 1))
            case measure => omega
            case rel => exact ⟨j + 1, rfl, by omega, by go_num, ⟨p, q, 0, ⟨#[]⟩, none, 0, 0, HN.out, by omega, by omega, .inr ⟨rfl, rfl, rfl, rfl, rfl⟩, by rw [← HRS.out]; simp⟩, HM.out, HB4.out⟩
          · have hz2 : (z != 0) = true := by simpa using hz
            obtain rfl : (Prims.zeroD, z) = R := by rw [← HRS.out, if_neg hz]
            obtain ⟨y0, y1, y2, y3, y4⟩ := hbx3.cells
            obtain ⟨v0, v1, v2, v3, v4⟩ := hbx3.free
            have hltM := hbx3.lt
            obtain ⟨r0, r1, r2, r3, r4⟩ := (hbx3.set (.int .i64 0) (.int .i64 0) (.int .i64 0) (.string ⟨#[]⟩) (.slice none 0 0)).cells
            have HB5 := Lib.hid (HB3.out.trans (set5_below (W t) w.heap.size w.heap.size (.int .i64 0) (.int .i64 0) (.int .i64 0) (.string ⟨#[]⟩) (.slice none 0 0) (Nat.le_refl _)))
            go_wp2_with fail
            exact bodyPost_ret (v := .tuple #[leafV 0 0 0, .int .i64 z]) (by simp [results, Tryz.results56, go_sem, leafV, r0, r1, r2, r3, r4]) rfl (endPost_leaf (by omega) (by omega) (by omega) rfl HB5.out)
        · obtain rfl : j = len := by omega
          obtain ⟨w0, w1, w2, w3, w4⟩ := HX.out.cells
          obtain ⟨y0, y1, y2, y3, y4⟩ := HX0.out.cells
          obtain ⟨v0, v1, v2, v3, v4⟩ := HX0.out.free
          have hlt0 := HX0.out.lt
          obtain ⟨rfl, rfl, rfl, rfl, rfl⟩ : ka = 0 ∧ sa = ⟨#[]⟩ ∧ oa = none ∧ la = 0 ∧ ca = 0 := by
            rcases HLF.out with ⟨h1, h2⟩ | h
            · cases h1
            · exact h
          obtain ⟨r0, r1, r2, r3, r4⟩ := (HX0.out.set (.int .i64 0) (.int .i64 a) (.int .i64 b) (.string ⟨#[]⟩) (.slice none 0 0)).cells
          have HB5 := Lib.hid (HB.out.trans (set5_below wr w.heap.size w.heap.size (.int .i64 0) (.int .i64 a) (.int .i64 b) (.string ⟨#[]⟩) (.slice none 0 0) (Nat.le_refl _)))
          have HRR := Lib.hid (show (Prims.num a b, 0) = R by rw [← HR2.out, List.drop_of_length_le (by rw [← HL.out]; exact Nat.le_refl _)]; rfl)
          clear hbox
          go_wp2_with fail
          rw [← HRR.out]
          exact bodyPost_ret (v := .tuple #[leafV 0 a b, .int .i64 0]) (by simp [results, Tryz.results56, go_sem, leafV, r0, r1, r2, r3, r4]) rfl (endPost_leaf (by omega) hab hbb rfl HB5.out)

set_option maxHeartbeats 4000000 in
set_option maxRecDepth 100000 in
theorem rsums_1 (l : List Dat) (sl : Value) (B : Nat) (w : World) (hv : RepS w B l sl) (hB : B ≤ w.heap.size) (B2 : Nat) :
    Calls Tryz.prog 56 #[.int .i64 1, sl] w (EndPost B2 (Prims.sums 1 l) w) := by
  obtain ⟨o, len, cap, rfl, hl, hcap, hmax, hc⟩ := hv.wider hB
  obtain ⟨R, hR⟩ : ∃ R, Prims.sums 1 l = R := ⟨_, rfl⟩
  rw [hR]
  have HRT := Lib.hid (show (l.any fun x => decide (x.kind ≠ 0)) = true → (Prims.zeroD, 1) = R by intro h; rw [← hR, Prims.sums, if_pos h])
  have HRF := Lib.hid (show (l.any fun x => decide (x.kind ≠ 0)) = false → Prims.sumsR 1 l = R by intro h; rw [← hR, Prims.sums, h]; simp)
  have HC := Lib.hid hc
  have HL := Lib.hid hl
  clear hc hl hR hv
  have HK := Lib.hid (show Below w.heap.size w (w.alloc (.cells #[.int .i64 0, .int .i64 0, .int .i64 0, .string ⟨#[]⟩, .slice none 0 0] 26)) ∧ Box5 (w.alloc (.cells #[.int .i64 0, .int .i64 0, .int .i64 0, .string ⟨#[]⟩, .slice none 0 0] 26)) w.heap.size 26 (.int .i64 0) (.int .i64 0) (.int .i64 0) (.string ⟨#[]⟩) (.slice none 0 0) from ⟨(Below.refl w.heap.size w).alloc (Nat.le_refl _) _, Box5.new _ _ _ _ _ _ _⟩)
  go_enter Tryz.func56, Tryz.ntmps56
  go_wp2_with fail
  go_loopg [6] len (fun g q wr => ∃ j : Nat, g = len - j ∧ j ≤ len ∧ q = .int .i64 j ∧ Hid (∀ (i : Nat) (x : Dat), i < j → l[i]? = some x → x.kind = 0) ∧ Hid (Below w.heap.size w wr ∧ Box5 wr w.heap.size 26 (.int .i64 0) (.int .i64 0) (.int .i64 0) (.string ⟨#[]⟩) (.slice none 0 0)))
  case atStart => exact ⟨0, rfl, by omega, rfl, Lib.hid (fun i x h => absurd h (by omega)), HK⟩
  case round =>
    obtain ⟨j, rfl, hj, rfl, HA, HBX⟩ := hrel
    by_cases hjl : j < len
    · obtain ⟨x, hx⟩ : ∃ x, l[j]? = some x := ⟨_, List.getElem?_eq_getElem (by rw [← HL.out]; exact hjl)⟩
      obtain ⟨b1, off1, k1, n1, d1, s1, l1, o1, len1, cap1, ho1, hx1, e0, e1, e2, e3, e4, er⟩ := part_at2 HC.out HBX.out.1 hx
      subst ho1 hx1
      have HX := Lib.hid hx
      have hbl := cell_lt e0
      clear hx er e1 e2 e3 e4
      by_cases hk : k1 = 0
      · subst hk
        go_wp2_with fail
        go_roundg (len - (j + 1))
        case measure => omega
        case rel =>
          refine ⟨j + 1, rfl, by omega, by go_num, Lib.hid ?_, HBX⟩
          intro i x hi hx
          by_cases hij : i < j
          · exact HA.out i x hij hx
          · obtain rfl : i = j := by omega
            have := HX.out.symm.trans hx
            simp only [Option.some.injEq] at this
            rw [← this]; rfl
      · have hk2 : (k1 != 0) = true := by simpa using hk
        obtain rfl : (Prims.zeroD, 1) = R := HRT.out (any_kind_true HX.out hk)
        have hbx3 := HBX.out.2
        obtain ⟨y0, y1, y2, y3, y4⟩ := hbx3.cells
        obtain ⟨v0, v1, v2, v3, v4⟩ := hbx3.free
        have hltM := hbx3.lt
        obtain ⟨r0, r1, r2, r3, r4⟩ := (hbx3.set (.int .i64 0) (.int .i64 0) (.int .i64 0) (.string ⟨#[]⟩) (.slice none 0 0)).cells
        have HB5 := Lib.hid (HBX.out.1.trans (set5_below wr w.heap.size w.heap.size (.int .i64 0) (.int .i64 0) (.int .i64 0) (.string ⟨#[]⟩) (.slice none 0 0) (Nat.le_refl _)))
        go_wp2_with fail
        exact bodyPost_ret (v := .tuple #[leafV 0 0 0, .int .i64 1]) (by simp [results, Tryz.results56, go_sem, leafV, r0, r1, r2, r3, r4]) rfl (endPost_leaf (by omega) (by omega) (by omega) rfl HB5.out)
    · have HRS := Lib.hid (HRF.out (any_kind_false (fun i x hx => HA.out i x (by have := (List.getElem?_eq_some_iff.1 hx).1; rw [← HL.out] at this; omega) hx)))
      clear HA HRT HRF
      obtain rfl : len = j := by omega
      clear hj
      go_wp2_with fail
      refine (rnumber_any _ _).mono ?_
      rintro e1 w2 ⟨rfl, hb2⟩
      have HX0 := Lib.hid (show Box5 w2 w.heap.size 26 (.int .i64 0) (.int .i64 0) (.int .i64 0) (.string ⟨#[]⟩) (.slice none 0 0) from (hb2.block _ HBX.out.2.lt).trans HBX.out.2)
      have HB2 := Lib.hid (Below.next HBX.out.1 hb2)
      have hs2 := HB2.out.size
      have hlt0 := HX0.out.lt
      clear hb2
      unfold leafV
      obtain ⟨H6, hH6⟩ : ∃ H6, w2.heap.size = H6 := ⟨_, rfl⟩
      have HH6 := Lib.hid hH6
      have hH6b : w.heap.size < H6 := by omega
      clear hH6
      go_upto_region 9 with fail
      try rw [HH6.out]
      obtain ⟨W3, hW3⟩ : ∃ W3, w2.alloc (.cells #[.int .i64 0, .int .i64 0, .int .i64 1, .string ⟨#[]⟩, .slice none 0 0] 26) = W3 := ⟨_, rfl⟩
      have hb6 : Box5 W3 H6 26 (.int .i64 0) (.int .i64 0) (.int .i64 1) (.string ⟨#[]⟩) (.slice none 0 0) := by rw [← hW3, ← HH6.out]; exact Box5.new _ _ _ _ _ _ _
      have HX3 := Lib.hid (show Box5 W3 w.heap.size 26 (.int .i64 0) (.int .i64 0) (.int .i64 0) (.string ⟨#[]⟩) (.slice none 0 0) by rw [← hW3]; exact HX0.out.alloc _)
      have HB3 := Lib.hid (show Below w.heap.size w W3 by rw [← hW3]; exact HB2.out.alloc hs2 _)
      rw [hW3]
      clear hW3 hs2
      by_cases hl1 : 1 < len
      · have hl2 : decide ((1 : Int) < (len : Int)) = true := decide_eq_true (by omega)
        have hl3 : decide (1 < len) = true := decide_eq_true hl1
        obtain ⟨x0, M, rfl⟩ : ∃ x0 M, l = x0 :: M := by
          cases l with
          | nil => have := HL.out; simp at this; omega
          | cons x0 M => exact ⟨x0, M, rfl⟩
        obtain ⟨bb, off, k0, n0, d0, s0, l0, o0, len0, cap0, ho, hx0, e0, e1, e2, e3, e4, er⟩ := part_at2 HC.out HB3.out (j := 0) (x := x0) rfl
        subst ho hx0
        simp only [Nat.zero_mul, Nat.add_zero] at e0 e1 e2 e3 e4
        have hbl0 := cell_lt e0
        obtain ⟨_, _, _, bn0, bd0, _, _⟩ := er.open
        obtain ⟨hcb, hcr⟩ := HC.out
        rw [RepC] at hcr
        have HSM := Lib.hid (show RepS w w.heap.size M (.slice (some ⟨bb, off + 5, none⟩) (len - 1) (cap - 1)) from ⟨some ⟨bb, off + 5, none⟩, len - 1, cap - 1, rfl, by have := HL.out; simp at this; omega, by omega, by omega, fun _ => ⟨rfl, (hcb (by simp)).2⟩, hcr.2⟩)
        have HLM := Lib.hid (show len - 1 = M.length by have := HL.out; simp at this; omega)
        have HRM := Lib.hid (show Prims.sumsL 1 M n0 d0 = R by
          rw [← HRS.out]
          have : 1 < (Dat.mk k0 n0 d0 s0 l0 :: M).length := by rw [← HL.out]; exact hl1
          simp only [Prims.sumsR]
          rw [if_pos ⟨by decide, this⟩]; rfl)
        have hl0 : 0 < len := by omega
        have hlt6 := hb6.lt
        have HI0 := Lib.hid (show SumsI 1 R M true w.heap.size H6 w 0 (set5 W3 H6 (.int .i64 k0) (.int .i64 n0) (.int .i64 d0) (.string s0) (.slice o0 len0 cap0)) from
          ⟨⟨n0, d0, k0, s0, o0, len0, cap0, hb6.set _ _ _ _ _, bn0, bd0, .inl ⟨rfl, rfl⟩, by simpa using HRM.out⟩, (set5_heap _ _ _ _ _ _ _ (by omega)).trans HX3.out, (HB3.out.trans (set5_below W3 H6 w.heap.size _ _ _ _ _ (by omega)))⟩)
        obtain ⟨q0, q1, q2, q3, q4⟩ := hb6.cells
        obtain ⟨z0, z1, z2, z3, z4⟩ := hb6.free
        clear hcb hcr er
        go_wp2_with fail
        obtain ⟨m, hm⟩ : ∃ m, len - 1 = m := ⟨_, rfl⟩
        have hm1 : 1 ≤ m := by omega
        have hm2 : m < 9223372036854775807 := by omega
        rw [hm] at HLM
        simp only [hm]
        clear hm hb6 q0 q1 q2 q3 q4 z0 z1 z2 z3 z4 e0 e1 e2 e3 e4

        go_loopg [8] m (fun g q wr => ∃ j : Nat, g = m - j ∧ j ≤ m ∧ q = .int .i64 j ∧ SumsI 1 R M true w.heap.size H6 w j wr)
        case atStart => exact ⟨0, rfl, by omega, rfl, HI0.out⟩
        case round =>
          obtain ⟨j, rfl, hj, rfl, ⟨a, b, ka, sa, oa, la, ca, hbox, hab, hbb, hlf, hR⟩, hbx0, hb⟩ := hrel
          have HR2 := Lib.hid hR
          have HX := Lib.hid hbox
          have HX0 := Lib.hid hbx0
          have HB := Lib.hid hb
          have HLF := Lib.hid hlf
          have hlt := hbox.lt
          have hsz := hb.size
          clear hbx0 hb hlf hR
          by_cases hjl : j < m
          · obtain ⟨x, hx⟩ : ∃ x, M[j]? = some x := ⟨_, List.getElem?_eq_getElem (by rw [← HLM.out]; exact hjl)⟩
            obtain ⟨b1, off1, k1, n1, d1, s1, l1, o1, len1, cap1, ho1, hx1, e0, e1, e2, e3, e4, er⟩ := part_atS HSM.out HB.out hx
            simp only [Option.some.injEq, Addr.mk.injEq, and_true] at ho1
            obtain ⟨rfl, rfl⟩ := ho1
            subst hx1
            obtain ⟨_, _, _, bn1, bd1, _, _⟩ := er.open
            have HXX := Lib.hid hx
            have hbl := cell_lt e0
            obtain ⟨p, q, z, hs⟩ : ∃ p q z, Prims.step 1 a b n1 d1 = (p, q, z) := ⟨_, _, _, rfl⟩
            have HS := Lib.hid (show Num.rsub a b n1 d1 = (p, q, z) by rw [← hs]; simp [Prims.step, Num.rsub_eq])
            have bds := step_bd hs
            have HRS := Lib.hid ((sumsL_step HXX.out hs).symm.trans HR2.out)
            have HD := Lib.hid ((Below.refl wr.heap.size wr).drew)
            have E0 := Lib.hid e1
            have E1 := Lib.hid e2
            clear hx er hs e0 e1 e2 e3 e4 hbox
            go_wp2_with fail
            refine wp_region_quiet_all (Below wr.heap.size wr) (by kernel_rfl) (by kernel_rfl) HD.out ?_
            intro T0 _ W HW HW2
            have g1 : ∀ t, (W t).cell? _ = _ := fun t => ((HW t).cell (p := ⟨H6, 1, none⟩) hlt).trans HX.out.cells.2.1
            have g2 : ∀ t, (W t).cell? _ = _ := fun t => ((HW t).cell (p := ⟨H6, 2, none⟩) hlt).trans HX.out.cells.2.2.1
            have j1 : ∀ t, (W t).cell? _ = _ := fun t => ((HW t).cell (p := ⟨_, _, none⟩) hbl).trans E0.out
            have j2 : ∀ t, (W t).cell? _ = _ := fun t => ((HW t).cell (p := ⟨_, _, none⟩) hbl).trans E1.out
            have HC0 : Hid (∀ t, Calls Tryz.prog 74 #[.int .i64 a, .int .i64 b, .int .i64 n1, .int .i64 d1] (W t) fun e w' => e = .returned (.tuple #[.int .i64 p, .int .i64 q, .int .i64 z]) ∧ ∃ t', w' = W t') := Lib.hid (fun t => (rsub_to a b n1 d1 p q z HS.out hab.1 hab.2 hbb.1 hbb.2 bn1.1 bn1.2 bd1.1 bd1.2 (W t)).mono fun e w' h => ⟨h.1, by obtain ⟨_, m, hm⟩ := h; exact HW2 _ (by rw [hm]; exact Below.drewN (HW t) m)⟩)
            have HWH := Lib.hid HW
            clear HW HW2
            repeat (go_big_quiet_step (first | (go_at_call 74; exact HC0.out _)))
            refine wpQuiet_nil ?_
            intro t
            have hbox3 : Box5 (W t) H6 26 (.int .i64 ka) (.int .i64 a) (.int .i64 b) (.string sa) (.slice oa la ca) := ((HWH.out t).block _ hlt).trans HX.out
            have hbx3 : Box5 (W t) w.heap.size 26 (.int .i64 0) (.int .i64 0) (.int .i64 0) (.string ⟨#[]⟩) (.slice none 0 0) := ((HWH.out t).block _ HX0.out.lt).trans HX0.out
            have HB3 := Lib.hid (Below.next HB.out (HWH.out t))
            have hs3 := HB3.out.size
            clear g1 g2 j1 j2
            by_cases hz : z = 0
            · subst hz
              have HN := Lib.hid (hbox3.set (.int .i64 0) (.int .i64 p) (.int .i64 q) (.string ⟨#[]⟩) (.slice none 0 0))
              have HM := Lib.hid (show Box5 (set5 (W t) H6 (.int .i64 0) (.int .i64 p) (.int .i64 q) (.string ⟨#[]⟩) (.slice none 0 0)) w.heap.size 26 (.int .i64 0) (.int .i64 0) (.int .i64 0) (.string ⟨#[]⟩) (.slice none 0 0) from (set5_heap _ _ _ _ _ _ _ (by omega)).trans hbx3)
              have HB4 := Lib.hid (HB3.out.trans (set5_below (W t) H6 w.heap.size (.int .i64 0) (.int .i64 p) (.int .i64 q) (.string ⟨#[]⟩) (.slice none 0 0) (by omega)))
              obtain ⟨q0, q1, q2, q3, q4⟩ := hbox3.cells
              obtain ⟨z0, z1, z2, z3, z4⟩ := hbox3.free
              have hlt3 := hbox3.lt
              go_wp2_with fail
              go_roundg (m - (j + 1))
              case measure => omega
              case rel => exact ⟨j + 1, rfl, by omega, by go_num, ⟨p, q, 0, ⟨#[]⟩, none, 0, 0, HN.out, by omega, by omega, .inr ⟨rfl, rfl, rfl, rfl, rfl⟩, by rw [← HRS.out]; simp⟩, HM.out, HB4.out⟩
            · have hz2 : (z != 0) = true := by simpa using hz
              obtain rfl : (Prims.zeroD, z) = R := by rw [← HRS.out, if_neg hz]
              obtain ⟨y0, y1, y2, y3, y4⟩ := hbx3.cells
              obtain ⟨v0, v1, v2, v3, v4⟩ := hbx3.free
              have hltM := hbx3.lt
              obtain ⟨r0, r1, r2, r3, r4⟩ := (hbx3.set (.int .i64 0) (.int .i64 0) (.int .i64 0) (.string ⟨#[]⟩) (.slice none 0 0)).cells
              have HB5 := Lib.hid (HB3.out.trans (set5_below (W t) w.heap.size w.heap.size (.int .i64 0) (.int .i64 0) (.int .i64 0) (.string ⟨#[]⟩) (.slice none 0 0) (Nat.le_refl _)))
              go_wp2_with fail
              exact bodyPost_ret (v := .tuple #[leafV 0 0 0, .int .i64 z]) (by simp [results, Tryz.results56, go_sem, leafV, r0, r1, r2, r3, r4]) rfl (endPost_leaf (by omega) (by omega) (by omega) rfl HB5.out)
          · obtain rfl : j = m := by omega
            obtain ⟨w0, w1, w2, w3, w4⟩ := HX.out.cells
            obtain ⟨y0, y1, y2, y3, y4⟩ := HX0.out.cells
            obtain ⟨v0, v1, v2, v3, v4⟩ := HX0.out.free
            have hlt0 := HX0.out.lt
            obtain ⟨rfl, rfl, rfl, rfl, rfl⟩ : ka = 0 ∧ sa = ⟨#[]⟩ ∧ oa = none ∧ la = 0 ∧ ca = 0 := by
              rcases HLF.out with ⟨h1, h2⟩ | h
              · omega
              · exact h
            obtain ⟨r0, r1, r2, r3, r4⟩ := (HX0.out.set (.int .i64 0) (.int .i64 a) (.int .i64 b) (.string ⟨#[]⟩) (.slice none 0 0)).cells
            have HB5 := Lib.hid (HB.out.trans (set5_below wr w.heap.size w.heap.size (.int .i64 0) (.int .i64 a) (.int .i64 b) (.string ⟨#[]⟩) (.slice none 0 0) (Nat.le_refl _)))
            have HRR := Lib.hid (show (Prims.num a b, 0) = R by rw [← HR2.out, List.drop_of_length_le (by rw [← HLM.out]; exact Nat.le_refl _)]; rfl)
            clear hbox
            go_wp2_with fail
            rw [← HRR.out]
            exact bodyPost_ret (v := .tuple #[leafV 0 a b, .int .i64 0]) (by simp [results, Tryz.results56, go_sem, leafV, r0, r1, r2, r3, r4]) rfl (endPost_leaf (by omega) hab hbb rfl HB5.out)

      · have hl2 : decide ((1 : Int) < (len : Int)) = false := decide_eq_false (by omega)
        have hl3 : decide (1 < len) = false := decide_eq_false hl1
        have HI0 := Lib.hid (show SumsI 1 R l false w.heap.size H6 w 0 W3 from ⟨⟨0, 1, 0, ⟨#[]⟩, none, 0, 0, hb6, by omega, by omega, .inr ⟨rfl, rfl, rfl, rfl, rfl⟩, by
            rw [← HRS.out]
            simp only [Prims.sumsR]
            rw [if_neg (by rw [← HL.out]; omega)]; rfl⟩, HX3.out, HB3.out⟩)
        clear hb6
        go_wp2_with fail

        go_loopg [8] len (fun g q wr => ∃ j : Nat, g = len - j ∧ j ≤ len ∧ q = .int .i64 j ∧ SumsI 1 R l false w.heap.size H6 w j wr)
        case atStart => exact ⟨0, rfl, by omega, rfl, HI0.out⟩
        case round =>
          obtain ⟨j, rfl, hj, rfl, ⟨a, b, ka, sa, oa, la, ca, hbox, hab, hbb, hlf, hR⟩, hbx0, hb⟩ := hrel
          have HR2 := Lib.hid hR
          have HX := Lib.hid hbox
          have HX0 := Lib.hid hbx0
          have HB := Lib.hid hb
          have HLF := Lib.hid hlf
          have hlt := hbox.lt
          have hsz := hb.size
          clear hbx0 hb hlf hR
          by_cases hjl : j < len
          · obtain ⟨x, hx⟩ : ∃ x, l[j]? = some x := ⟨_, List.getElem?_eq_getElem (by rw [← HL.out]; exact hjl)⟩
            obtain ⟨b1, off1, k1, n1, d1, s1, l1, o1, len1, cap1, ho1, hx1, e0, e1, e2, e3, e4, er⟩ := part_at2 HC.out HB.out hx
            subst ho1
            skip
            subst hx1
            obtain ⟨_, _, _, bn1, bd1, _, _⟩ := er.open
            have HXX := Lib.hid hx
            have hbl := cell_lt e0
            obtain ⟨p, q, z, hs⟩ : ∃ p q z, Prims.step 1 a b n1 d1 = (p, q, z) := ⟨_, _, _, rfl⟩
            have HS := Lib.hid (show Num.rsub a b n1 d1 = (p, q, z) by rw [← hs]; simp [Prims.step, Num.rsub_eq])
            have bds := step_bd hs
            have HRS := Lib.hid ((sumsL_step HXX.out hs).symm.trans HR2.out)
            have HD := Lib.hid ((Below.refl wr.heap.size wr).drew)
            have E0 := Lib.hid e1
            have E1 := Lib.hid e2
            clear hx er hs e0 e1 e2 e3 e4 hbox
            go_wp2_with fail
            refine wp_region_quiet_all (Below wr.heap.size wr) (by kernel_rfl) (by kernel_rfl) HD.out ?_
            intro T0 _ W HW HW2
            have g1 : ∀ t, (W t).cell? _ = _ := fun t => ((HW t).cell (p := ⟨H6, 1, none⟩) hlt).trans HX.out.cells.2.1
            have g2 : ∀ t, (W t).cell? _ = _ := fun t => ((HW t).cell (p := ⟨H6, 2, none⟩) hlt).trans HX.out.cells.2.2.1
            have j1 : ∀ t, (W t).cell? _ = _ := fun t => ((HW t).cell (p := ⟨_, _, none⟩) hbl).trans E0.out
            have j2 : ∀ t, (W t).cell? _ = _ := fun t => ((HW t).cell (p := ⟨_, _, none⟩) hbl).trans E1.out
            have HC0 : Hid (∀ t, Calls Tryz.prog 74 #[.int .i64 a, .int .i64 b, .int .i64 n1, .int .i64 d1] (W t) fun e w' => e = .returned (.tuple #[.int .i64 p, .int .i64 q, .int .i64 z]) ∧ ∃ t', w' = W t') := Lib.hid (fun t => (rsub_to a b n1 d1 p q z HS.out hab.1 hab.2 hbb.1 hbb.2 bn1.1 bn1.2 bd1.1 bd1.2 (W t)).mono fun e w' h => ⟨h.1, by obtain ⟨_, m, hm⟩ := h; exact HW2 _ (by rw [hm]; exact Below.drewN (HW t) m)⟩)
            have HWH := Lib.hid HW
            clear HW HW2
            repeat (go_big_quiet_step (first | (go_at_call 74; exact HC0.out _)))
            refine wpQuiet_nil ?_
            intro t
            have hbox3 : Box5 (W t) H6 26 (.int .i64 ka) (.int .i64 a) (.int .i64 b) (.string sa) (.slice oa la ca) := ((HWH.out t).block _ hlt).trans HX.out
            have hbx3 : Box5 (W t) w.heap.size 26 (.int .i64 0) (.int .i64 0) (.int .i64 0) (.string ⟨#[]⟩) (.slice none 0 0) := ((HWH.out t).block _ HX0.out.lt).trans HX0.out
            have HB3 := Lib.hid (Below.next HB.out (HWH.out t))
            have hs3 := HB3.out.size
            clear g1 g2 j1 j2
            by_cases hz : z = 0
            · subst hz
              have HN := Lib.hid (hbox3.set (.int .i64 0) (.int .i64 p) (.int .i64 q) (.string ⟨#[]⟩) (.slice none 0 0))
              have HM := Lib.hid (show Box5 (set5 (W t) H6 (.int .i64 0) (.int .i64 p) (.int .i64 q) (.string ⟨#[]⟩) (.slice none 0 0)) w.heap.size 26 (.int .i64 0) (.int .i64 0) (.int .i64 0) (.string ⟨#[]⟩) (.slice none 0 0) from (set5_heap _ _ _ _ _ _ _ (by omega)).trans hbx3)
              have HB4 := Lib.hid (HB3.out.trans (set5_below (W t) H6 w.heap.size (.int .i64 0) (.int .i64 p) (.int .i64 q) (.string ⟨#[]⟩) (.slice none 0 0) (by omega)))
              obtain ⟨q0, q1, q2, q3, q4⟩ := hbox3.cells
              obtain ⟨z0, z1, z2, z3, z4⟩ := hbox3.free
              have hlt3 := hbox3.lt
              go_wp2_with fail
              go_roundg (len - (j + 1))
              case measure => omega
              case rel => exact ⟨j + 1, rfl, by omega, by go_num, ⟨p, q, 0, ⟨#[]⟩, none, 0, 0, HN.out, by omega, by omega, .inr ⟨rfl, rfl, rfl, rfl, rfl⟩, by rw [← HRS.out]; simp⟩, HM.out, HB4.out⟩
            · have hz2 : (z != 0) = true := by simpa using hz
              obtain rfl : (Prims.zeroD, z) = R := by rw [← HRS.out, if_neg hz]
              obtain ⟨y0, y1, y2, y3, y4⟩ := hbx3.cells
              obtain ⟨v0, v1, v2, v3, v4⟩ := hbx3.free
              have hltM := hbx3.lt
              obtain ⟨r0, r1, r2, r3, r4⟩ := (hbx3.set (.int .i64 0) (.int .i64 0) (.int .i64 0) (.string ⟨#[]⟩) (.slice none 0 0)).cells
              have HB5 := Lib.hid (HB3.out.trans (set5_below (W t) w.heap.size w.heap.size (.int .i64 0) (.int .i64 0) (.int .i64 0) (.string ⟨#[]⟩) (.slice none 0 0) (Nat.le_refl _)))
              go_wp2_with fail
              exact bodyPost_ret (v := .tuple #[leafV 0 0 0, .int .i64 z]) (by simp [results, Tryz.results56, go_sem, leafV, r0, r1, r2, r3, r4]) rfl (endPost_leaf (by omega) (by omega) (by omega) rfl HB5.out)
          · obtain rfl : j = len := by omega
            obtain ⟨w0, w1, w2, w3, w4⟩ := HX.out.cells
            obtain ⟨y0, y1, y2, y3, y4⟩ := HX0.out.cells
            obtain ⟨v0, v1, v2, v3, v4⟩ := HX0.out.free
            have hlt0 := HX0.out.lt
            obtain ⟨rfl, rfl, rfl, rfl, rfl⟩ : ka = 0 ∧ sa = ⟨#[]⟩ ∧ oa = none ∧ la = 0 ∧ ca = 0 := by
              rcases HLF.out with ⟨h1, h2⟩ | h
              · cases h1
              · exact h
            obtain ⟨r0, r1, r2, r3, r4⟩ := (HX0.out.set (.int .i64 0) (.int .i64 a) (.int .i64 b) (.string ⟨#[]⟩) (.slice none 0 0)).cells
            have HB5 := Lib.hid (HB.out.trans (set5_below wr w.heap.size w.heap.size (.int .i64 0) (.int .i64 a) (.int .i64 b) (.string ⟨#[]⟩) (.slice none 0 0) (Nat.le_refl _)))
            have HRR := Lib.hid (show (Prims.num a b, 0) = R by rw [← HR2.out, List.drop_of_length_le (by rw [← HL.out]; exact Nat.le_refl _)]; rfl)
            clear hbox
            go_wp2_with fail
            rw [← HRR.out]
            exact bodyPost_ret (v := .tuple #[leafV 0 a b, .int .i64 0]) (by simp [results, Tryz.results56, go_sem, leafV, r0, r1, r2, r3, r4]) rfl (endPost_leaf (by omega) hab hbb rfl HB5.out)

set_option maxHeartbeats 4000000 in
set_option maxRecDepth 100000 in
theorem rsums_2 (l : List Dat) (sl : Value) (B : Nat) (w : World) (hv : RepS w B l sl) (hB : B ≤ w.heap.size) (B2 : Nat) :
    Calls Tryz.prog 56 #[.int .i64 2, sl] w (EndPost B2 (Prims.sums 2 l) w) := by
  obtain ⟨o, len, cap, rfl, hl, hcap, hmax, hc⟩ := hv.wider hB
  obtain ⟨R, hR⟩ : ∃ R, Prims.sums 2 l = R := ⟨_, rfl⟩
  rw [hR]
  have HRT := Lib.hid (show (l.any fun x => decide (x.kind ≠ 0)) = true → (Prims.zeroD, 1) = R by intro h; rw [← hR, Prims.sums, if_pos h])
  have HRF := Lib.hid (show (l.any fun x => decide (x.kind ≠ 0)) = false → Prims.sumsR 2 l = R by intro h; rw [← hR, Prims.sums, h]; simp)
  have HC := Lib.hid hc
  have HL := Lib.hid hl
  clear hc hl hR hv
  have HK := Lib.hid (show Below w.heap.size w (w.alloc (.cells #[.int .i64 0, .int .i64 0, .int .i64 0, .string ⟨#[]⟩, .slice none 0 0] 26)) ∧ Box5 (w.alloc (.cells #[.int .i64 0, .int .i64 0, .int .i64 0, .string ⟨#[]⟩, .slice none 0 0] 26)) w.heap.size 26 (.int .i64 0) (.int .i64 0) (.int .i64 0) (.string ⟨#[]⟩) (.slice none 0 0) from ⟨(Below.refl w.heap.size w).alloc (Nat.le_refl _) _, Box5.new _ _ _ _ _ _ _⟩)
  go_enter Tryz.func56, Tryz.ntmps56
  go_wp2_with fail
  go_loopg [6] len (fun g q wr => ∃ j : Nat, g = len - j ∧ j ≤ len ∧ q = .int .i64 j ∧ Hid (∀ (i : Nat) (x : Dat), i < j → l[i]? = some x → x.kind = 0) ∧ Hid (Below w.heap.size w wr ∧ Box5 wr w.heap.size 26 (.int .i64 0) (.int .i64 0) (.int .i64 0) (.string ⟨#[]⟩) (.slice none 0 0)))
  case atStart => exact ⟨0, rfl, by omega, rfl, Lib.hid (fun i x h => absurd h (by omega)), HK⟩
  case round =>
    obtain ⟨j, rfl, hj, rfl, HA, HBX⟩ := hrel
    by_cases hjl : j < len
    · obtain ⟨x, hx⟩ : ∃ x, l[j]? = some x := ⟨_, List.getElem?_eq_getElem (by rw [← HL.out]; exact hjl)⟩
      obtain ⟨b1, off1, k1, n1, d1, s1, l1, o1, len1, cap1, ho1, hx1, e0, e1, e2, e3, e4, er⟩ := part_at2 HC.out HBX.out.1 hx
      subst ho1 hx1
      have HX := Lib.hid hx
      have hbl := cell_lt e0
      clear hx er e1 e2 e3 e4
      by_cases hk : k1 = 0
      · subst hk
        go_wp2_with fail
        go_roundg (len - (j + 1))
        case measure => omega
        case rel =>
          refine ⟨j + 1, rfl, by omega, by go_num, Lib.hid ?_, HBX⟩
          intro i x hi hx
          by_cases hij : i < j
          · exact HA.out i x hij hx
          · obtain rfl : i = j := by omega
            have := HX.out.symm.trans hx
            simp only [Option.some.injEq] at this
            rw [← this]; rfl
      · have hk2 : (k1 != 0) = true := by simpa using hk
        obtain rfl : (Prims.zeroD, 1) = R := HRT.out (any_kind_true HX.out hk)
        have hbx3 := HBX.out.2
        obtain ⟨y0, y1, y2, y3, y4⟩ := hbx3.cells
        obtain ⟨v0, v1, v2, v3, v4⟩ := hbx3.free
        have hltM := hbx3.lt
        obtain ⟨r0, r1, r2, r3, r4⟩ := (hbx3.set (.int .i64 0) (.int .i64 0) (.int .i64 0) (.string ⟨#[]⟩) (.slice none 0 0)).cells
        have HB5 := Lib.hid (HBX.out.1.trans (set5_below wr w.heap.size w.heap.size (.int .i64 0) (.int .i64 0) (.int .i64 0) (.string ⟨#[]⟩) (.slice none 0 0) (Nat.le_refl _)))
        go_wp2_with fail
        exact bodyPost_ret (v := .tuple #[leafV 0 0 0, .int .i64 1]) (by simp [results, Tryz.results56, go_sem, leafV, r0, r1, r2, r3, r4]) rfl (endPost_leaf (by omega) (by omega) (by omega) rfl HB5.out)
    · have HRS := Lib.hid (HRF.out (any_kind_false (fun i x hx => HA.out i x (by have := (List.getElem?_eq_some_iff.1 hx).1; rw [← HL.out] at this; omega) hx)))
      clear HA HRT HRF
      obtain rfl : len = j := by omega
      clear hj
      go_wp2_with fail
      refine (rnumber_any _ _).mono ?_
      rintro e1 w2 ⟨rfl, hb2⟩
      have HX0 := Lib.hid (show Box5 w2 w.heap.size 26 (.int .i64 0) (.int .i64 0) (.int .i64 0) (.string ⟨#[]⟩) (.slice none 0 0) from (hb2.block _ HBX.out.2.lt).trans HBX.out.2)
      have HB2 := Lib.hid (Below.next HBX.out.1 hb2)
      have hs2 := HB2.out.size
      have hlt0 := HX0.out.lt
      clear hb2
      unfold leafV
      obtain ⟨H6, hH6⟩ : ∃ H6, w2.heap.size = H6 := ⟨_, rfl⟩
      have HH6 := Lib.hid hH6
      have hH6b : w.heap.size < H6 := by omega
      clear hH6
      go_wp2_with fail
      refine (rnumber_any _ _).mono ?_
      rintro e1 w2' ⟨rfl, hb2⟩
      rw [HH6.out]
      have hb6 : Box5 w2' H6 26 (.int .i64 0) (.int .i64 0) (.int .i64 1) (.string ⟨#[]⟩) (.slice none 0 0) := (hb2.block _ (by simp; have := HH6.out; omega)).trans (by rw [← HH6.out]; exact Box5.new _ _ _ _ _ _ _)
      have HX1 := Lib.hid (show Box5 w2' w.heap.size 26 (.int .i64 0) (.int .i64 0) (.int .i64 0) (.string ⟨#[]⟩) (.slice none 0 0) from (hb2.block _ (by simp; omega)).trans (HX0.out.alloc _))
      have HB1 := Lib.hid (Below.next (HB2.out.alloc hs2 _) hb2)
      have hs1 := HB1.out.size
      clear hb2 hs2 hlt0
      unfold leafV
      obtain ⟨q0, q1, q2, q3, q4⟩ := hb6.cells
      obtain ⟨z0, z1, z2, z3, z4⟩ := hb6.free
      have hlt6 := hb6.lt
      obtain ⟨W3, hW3⟩ : ∃ W3, set5 w2' H6 (.int .i64 0) (.int .i64 1) (.int .i64 1) (.string ⟨#[]⟩) (.slice none 0 0) = W3 := ⟨_, rfl⟩
      have hb7 : Box5 W3 H6 26 (.int .i64 0) (.int .i64 1) (.int .i64 1) (.string ⟨#[]⟩) (.slice none 0 0) := by rw [← hW3]; exact hb6.set _ _ _ _ _
      have HX3 := Lib.hid (show Box5 W3 w.heap.size 26 (.int .i64 0) (.int .i64 0) (.int .i64 0) (.string ⟨#[]⟩) (.slice none 0 0) by rw [← hW3]; exact (set5_heap _ _ _ _ _ _ _ (by omega)).trans HX1.out)
      have HB3 := Lib.hid (show Below w.heap.size w W3 by rw [← hW3]; exact HB1.out.trans (set5_below _ _ _ _ _ _ _ _ (by omega)))
      have HB7 := Lib.hid hb7
      unfold set5 at hW3
      go_upto_region 9 with fail
      try rw [hW3]
      clear hW3 hb6 q0 q1 q2 q3 q4 z0 z1 z2 z3 z4 hlt6 hb7
      have hb6 := HB7.out
      have HI0 := Lib.hid (show SumsI 2 R l false w.heap.size H6 w 0 W3 from ⟨⟨1, 1, 0, ⟨#[]⟩, none, 0, 0, hb6, by omega, by omega, .inr ⟨rfl, rfl, rfl, rfl, rfl⟩, by rw [← HRS.out]; simp [Prims.sumsR]⟩, HX3.out, HB3.out⟩)
      clear hb6
      go_wp2_with fail

      go_loopg [8] len (fun g q wr => ∃ j : Nat, g = len - j ∧ j ≤ len ∧ q = .int .i64 j ∧ SumsI 2 R l false w.heap.size H6 w j wr)
      case atStart => exact ⟨0, rfl, by omega, rfl, HI0.out⟩
      case round =>
        obtain ⟨j, rfl, hj, rfl, ⟨a, b, ka, sa, oa, la, ca, hbox, hab, hbb, hlf, hR⟩, hbx0, hb⟩ := hrel
        have HR2 := Lib.hid hR
        have HX := Lib.hid hbox
        have HX0 := Lib.hid hbx0
        have HB := Lib.hid hb
        have HLF := Lib.hid hlf
        have hlt := hbox.lt
        have hsz := hb.size
        clear hbx0 hb hlf hR
        by_cases hjl : j < len
        · obtain ⟨x, hx⟩ : ∃ x, l[j]? = some x := ⟨_, List.getElem?_eq_getElem (by rw [← HL.out]; exact hjl)⟩
          obtain ⟨b1, off1, k1, n1, d1, s1, l1, o1, len1, cap1, ho1, hx1, e0, e1, e2, e3, e4, er⟩ := part_at2 HC.out HB.out hx
          subst ho1
          skip
          subst hx1
          obtain ⟨_, _, _, bn1, bd1, _, _⟩ := er.open
          have HXX := Lib.hid hx
          have hbl := cell_lt e0
          obtain ⟨p, q, z, hs⟩ : ∃ p q z, Prims.step 2 a b n1 d1 = (p, q, z) := ⟨_, _, _, rfl⟩
          have HS := Lib.hid (show Num.rmul a b n1 d1 = (p, q, z) by rw [← hs]; simp [Prims.step, Num.rmul_eq])
          have bds := step_bd hs
          have HRS := Lib.hid ((sumsL_step HXX.out hs).symm.trans HR2.out)
          have HD := Lib.hid ((Below.refl wr.heap.size wr).drew)
          have E0 := Lib.hid e1
          have E1 := Lib.hid e2
          clear hx er hs e0 e1 e2 e3 e4 hbox
          go_wp2_with fail
          refine wp_region_quiet_all (Below wr.heap.size wr) (by kernel_rfl) (by kernel_rfl) HD.out ?_
          intro T0 _ W HW HW2
          have g1 : ∀ t, (W t).cell? _ = _ := fun t => ((HW t).cell (p := ⟨H6, 1, none⟩) hlt).trans HX.out.cells.2.1
          have g2 : ∀ t, (W t).cell? _ = _ := fun t => ((HW t).cell (p := ⟨H6, 2, none⟩) hlt).trans HX.out.cells.2.2.1
          have j1 : ∀ t, (W t).cell? _ = _ := fun t => ((HW t).cell (p := ⟨_, _, none⟩) hbl).trans E0.out
          have j2 : ∀ t, (W t).cell? _ = _ := fun t => ((HW t).cell (p := ⟨_, _, none⟩) hbl).trans E1.out
          have HC0 : Hid (∀ t, Calls Tryz.prog 75 #[.int .i64 a, .int .i64 b, .int .i64 n1, .int .i64 d1] (W t) fun e w' => e = .returned (.tuple #[.int .i64 p, .int .i64 q, .int .i64 z]) ∧ ∃ t', w' = W t') := Lib.hid (fun t => (rmul_to a b n1 d1 p q z HS.out hab.1 hab.2 hbb.1 hbb.2 bn1.1 bn1.2 bd1.1 bd1.2 (W t)).mono fun e w' h => ⟨h.1, by obtain ⟨_, m, hm⟩ := h; exact HW2 _ (by rw [hm]; exact Below.drewN (HW t) m)⟩)
          have HWH := Lib.hid HW
          clear HW HW2
          repeat (go_big_quiet_step (first | (go_at_call 75; exact HC0.out _)))
          refine wpQuiet_nil ?_
          intro t
          have hbox3 : Box5 (W t) H6 26 (.int .i64 ka) (.int .i64 a) (.int .i64 b) (.string sa) (.slice oa la ca) := ((HWH.out t).block _ hlt).trans HX.out
          have hbx3 : Box5 (W t) w.heap.size 26 (.int .i64 0) (.int .i64 0) (.int .i64 0) (.string ⟨#[]⟩) (.slice none 0 0) := ((HWH.out t).block _ HX0.out.lt).trans HX0.out
          have HB3 := Lib.hid (Below.next HB.out (HWH.out t))
          have hs3 := HB3.out.size
          clear g1 g2 j1 j2
          by_cases hz : z = 0
          · subst hz
            have HN := Lib.hid (hbox3.set (.int .i64 0) (.int .i64 p) (.int .i64 q) (.string ⟨#[]⟩) (.slice none 0 0))
            have HM := Lib.hid (show Box5 (set5 (W t) H6 (.int .i64 0) (.int .i64 p) (.int .i64 q) (.string ⟨#[]⟩) (.slice none 0 0)) w.heap.size 26 (.int .i64 0) (.int .i64 0) (.int .i64 0) (.string ⟨#[]⟩) (.slice none 0 0) from (set5_heap _ _ _ _ _ _ _ (by omega)).trans hbx3)
            have HB4 := Lib.hid (HB3.out.trans (set5_below (W t) H6 w.heap.size (.int .i64 0) (.int .i64 p) (.int .i64 q) (.string ⟨#[]⟩) (.slice none 0 0) (by omega)))
            obtain ⟨q0, q1, q2, q3, q4⟩ := hbox3.cells
            obtain ⟨z0, z1, z2, z3, z4⟩ := hbox3.free
            have hlt3 := hbox3.lt
            go_wp2_with fail
            go_roundg (len - (j + 1))
            case measure => omega
            case rel => exact ⟨j + 1, rfl, by omega, by go_num, ⟨p, q, 0, ⟨#[]⟩, none, 0, 0, HN.out, by omega, by omega, .inr ⟨rfl, rfl, rfl, rfl, rfl⟩, by rw [← HRS.out]; simp⟩, HM.out, HB4.out⟩
          · have hz2 : (z != 0) = true := by simpa using hz
            obtain rfl : (Prims.zeroD, z) = R := by rw [← HRS.out, if_neg hz]
            obtain ⟨y0, y1, y2, y3, y4⟩ := hbx3.cells
            obtain ⟨v0, v1, v2, v3, v4⟩ := hbx3.free
            have hltM := hbx3.lt
            obtain ⟨r0, r1, r2, r3, r4⟩ := (hbx3.set (.int .i64 0) (.int .i64 0) (.int .i64 0) (.string ⟨#[]⟩) (.slice none 0 0)).cells
            have HB5 := Lib.hid (HB3.out.trans (set5_below (W t) w.heap.size w.heap.size (.int .i64 0) (.int .i64 0) (.int .i64 0) (.string ⟨#[]⟩) (.slice none 0 0) (Nat.le_refl _)))
            go_wp2_with fail
            exact bodyPost_ret (v := .tuple #[leafV 0 0 0, .int .i64 z]) (by simp [results, Tryz.results56, go_sem, leafV, r0, r1, r2, r3, r4]) rfl (endPost_leaf (by omega) (by omega) (by omega) rfl HB5.out)
        · obtain rfl : j = len := by omega
          obtain ⟨w0, w1, w2, w3, w4⟩ := HX.out.cells
          obtain ⟨y0, y1, y2, y3, y4⟩ := HX0.out.cells
          obtain ⟨v0, v1, v2, v3, v4⟩ := HX0.out.free
          have hlt0 := HX0.out.lt
          obtain ⟨rfl, rfl, rfl, rfl, rfl⟩ : ka = 0 ∧ sa = ⟨#[]⟩ ∧ oa = none ∧ la = 0 ∧ ca = 0 := by
            rcases HLF.out with ⟨h1, h2⟩ | h
            · cases h1
            · exact h
          obtain ⟨r0, r1, r2, r3, r4⟩ := (HX0.out.set (.int .i64 0) (.int .i64 a) (.int .i64 b) (.string ⟨#[]⟩) (.slice none 0 0)).cells
          have HB5 := Lib.hid (HB.out.trans (set5_below wr w.heap.size w.heap.size (.int .i64 0) (.int .i64 a) (.int .i64 b) (.string ⟨#[]⟩) (.slice none 0 0) (Nat.le_refl _)))
          have HRR := Lib.hid (show (Prims.num a b, 0) = R by rw [← HR2.out, List.drop_of_length_le (by rw [← HL.out]; exact Nat.le_refl _)]; rfl)
          clear hbox
          go_wp2_with fail
          rw [← HRR.out]
          exact bodyPost_ret (v := .tuple #[leafV 0 a b, .int .i64 0]) (by simp [results, Tryz.results56, go_sem, leafV, r0, r1, r2, r3, r4]) rfl (endPost_leaf (by omega) hab hbb rfl HB5.out)

set_option maxHeartbeats 4000000 in
set_option maxRecDepth 100000 in
theorem rsums_3 (l : List Dat) (sl : Value) (B : Nat) (w : World) (hv : RepS w B l sl) (hB : B ≤ w.heap.size) (B2 : Nat) :
    Calls Tryz.prog 56 #[.int .i64 3, sl] w (EndPost B2 (Prims.sums 3 l) w) := by
  obtain ⟨o, len, cap, rfl, hl, hcap, hmax, hc⟩ := hv.wider hB
  obtain ⟨R, hR⟩ : ∃ R, Prims.sums 3 l = R := ⟨_, rfl⟩
  rw [hR]
  have HRT := Lib.hid (show (l.any fun x => decide (x.kind ≠ 0)) = true → (Prims.zeroD, 1) = R by intro h; rw [← hR, Prims.sums, if_pos h])
  have HRF := Lib.hid (show (l.any fun x => decide (x.kind ≠ 0)) = false → Prims.sumsR 3 l = R by intro h; rw [← hR, Prims.sums, h]; simp)
  have HC := Lib.hid hc
  have HL := Lib.hid hl
  clear hc hl hR hv
  have HK := Lib.hid (show Below w.heap.size w (w.alloc (.cells #[.int .i64 0, .int .i64 0, .int .i64 0, .string ⟨#[]⟩, .slice none 0 0] 26)) ∧ Box5 (w.alloc (.cells #[.int .i64 0, .int .i64 0, .int .i64 0, .string ⟨#[]⟩, .slice none 0 0] 26)) w.heap.size 26 (.int .i64 0) (.int .i64 0) (.int .i64 0) (.string ⟨#[]⟩) (.slice none 0 0) from ⟨(Below.refl w.heap.size w).alloc (Nat.le_refl _) _, Box5.new _ _ _ _ _ _ _⟩)
  go_enter Tryz.func56, Tryz.ntmps56
  go_wp2_with fail
  go_loopg [6] len (fun g q wr => ∃ j : Nat, g = len - j ∧ j ≤ len ∧ q = .int .i64 j ∧ Hid (∀ (i : Nat) (x : Dat), i < j → l[i]? = some x → x.kind = 0) ∧ Hid (Below w.heap.size w wr ∧ Box5 wr w.heap.size 26 (.int .i64 0) (.int .i64 0) (.int .i64 0) (.string ⟨#[]⟩) (.slice none 0 0)))
  case atStart => exact ⟨0, rfl, by omega, rfl, Lib.hid (fun i x h => absurd h (by omega)), HK⟩
  case round =>
    obtain ⟨j, rfl, hj, rfl, HA, HBX⟩ := hrel
    by_cases hjl : j < len
    · obtain ⟨x, hx⟩ : ∃ x, l[j]? = some x := ⟨_, List.getElem?_eq_getElem (by rw [← HL.out]; exact hjl)⟩
      obtain ⟨b1, off1, k1, n1, d1, s1, l1, o1, len1, cap1, ho1, hx1, e0, e1, e2, e3, e4, er⟩ := part_at2 HC.out HBX.out.1 hx
      subst ho1 hx1
      have HX := Lib.hid hx
      have hbl := cell_lt e0
      clear hx er e1 e2 e3 e4
      by_cases hk : k1 = 0
      · subst hk
        go_wp2_with fail
        go_roundg (len - (j + 1))
        case measure => omega
        case rel =>
          refine ⟨j + 1, rfl, by omega, by go_num, Lib.hid ?_, HBX⟩
          intro i x hi hx
          by_cases hij : i < j
          · exact HA.out i x hij hx
          · obtain rfl : i = j := by omega
            have := HX.out.symm.trans hx
            simp only [Option.some.injEq] at this
            rw [← this]; rfl
      · have hk2 : (k1 != 0) = true := by simpa using hk
        obtain rfl : (Prims.zeroD, 1) = R := HRT.out (any_kind_true HX.out hk)
        have hbx3 := HBX.out.2
        obtain ⟨y0, y1, y2, y3, y4⟩ := hbx3.cells
        obtain ⟨v0, v1, v2, v3, v4⟩ := hbx3.free
        have hltM := hbx3.lt
        obtain ⟨r0, r1, r2, r3, r4⟩ := (hbx3.set (.int .i64 0) (.int .i64 0) (.int .i64 0) (.string ⟨#[]⟩) (.slice none 0 0)).cells
        have HB5 := Lib.hid (HBX.out.1.trans (set5_below wr w.heap.size w.heap.size (.int .i64 0) (.int .i64 0) (.int .i64 0) (.string ⟨#[]⟩) (.slice none 0 0) (Nat.le_refl _)))
        go_wp2_with fail
        exact bodyPost_ret (v := .tuple #[leafV 0 0 0, .int .i64 1]) (by simp [results, Tryz.results56, go_sem, leafV, r0, r1, r2, r3, r4]) rfl (endPost_leaf (by omega) (by omega) (by omega) rfl HB5.out)
    · have HRS := Lib.hid (HRF.out (any_kind_false (fun i x hx => HA.out i x (by have := (List.getElem?_eq_some_iff.1 hx).1; rw [← HL.out] at this; omega) hx)))
      clear HA HRT HRF
      obtain rfl : len = j := by omega
      clear hj
      go_wp2_with fail
      refine (rnumber_any _ _).mono ?_
      rintro e1 w2 ⟨rfl, hb2⟩
      have HX0 := Lib.hid (show Box5 w2 w.heap.size 26 (.int .i64 0) (.int .i64 0) (.int .i64 0) (.string ⟨#[]⟩) (.slice none 0 0) from (hb2.block _ HBX.out.2.lt).trans HBX.out.2)
      have HB2 := Lib.hid (Below.next HBX.out.1 hb2)
      have hs2 := HB2.out.size
      have hlt0 := HX0.out.lt
      clear hb2
      unfold leafV
      obtain ⟨H6, hH6⟩ : ∃ H6, w2.heap.size = H6 := ⟨_, rfl⟩
      have HH6 := Lib.hid hH6
      have hH6b : w.heap.size < H6 := by omega
      clear hH6
      go_wp2_with fail
      refine (rnumber_any _ _).mono ?_
      rintro e1 w2' ⟨rfl, hb2⟩
      rw [HH6.out]
      have hb6 : Box5 w2' H6 26 (.int .i64 0) (.int .i64 0) (.int .i64 1) (.string ⟨#[]⟩) (.slice none 0 0) := (hb2.block _ (by simp; have := HH6.out; omega)).trans (by rw [← HH6.out]; exact Box5.new _ _ _ _ _ _ _)
      have HX1 := Lib.hid (show Box5 w2' w.heap.size 26 (.int .i64 0) (.int .i64 0) (.int .i64 0) (.string ⟨#[]⟩) (.slice none 0 0) from (hb2.block _ (by simp; omega)).trans (HX0.out.alloc _))
      have HB1 := Lib.hid (Below.next (HB2.out.alloc hs2 _) hb2)
      have hs1 := HB1.out.size
      clear hb2 hs2 hlt0
      unfold leafV
      obtain ⟨q0, q1, q2, q3, q4⟩ := hb6.cells
      obtain ⟨z0, z1, z2, z3, z4⟩ := hb6.free
      have hlt6 := hb6.lt
      obtain ⟨W3, hW3⟩ : ∃ W3, set5 w2' H6 (.int .i64 0) (.int .i64 1) (.int .i64 1) (.string ⟨#[]⟩) (.slice none 0 0) = W3 := ⟨_, rfl⟩
      have hb7 : Box5 W3 H6 26 (.int .i64 0) (.int .i64 1) (.int .i64 1) (.string ⟨#[]⟩) (.slice none 0 0) := by rw [← hW3]; exact hb6.set _ _ _ _ _
      have HX3 := Lib.hid (show Box5 W3 w.heap.size 26 (.int .i64 0) (.int .i64 0) (.int .i64 0) (.string ⟨#[]⟩) (.slice none 0 0) by rw [← hW3]; exact (set5_heap _ _ _ _ _ _ _ (by omega)).trans HX1.out)
      have HB3 := Lib.hid (show Below w.heap.size w W3 by rw [← hW3]; exact HB1.out.trans (set5_below _ _ _ _ _ _ _ _ (by omega)))
      have HB7 := Lib.hid hb7
      unfold set5 at hW3
      go_upto_region 9 with fail
      try rw [hW3]
      clear hW3 hb6 q0 q1 q2 q3 q4 z0 z1 z2 z3 z4 hlt6 hb7
      have hb6 := HB7.out
      by_cases hl1 : 1 < len
      · have hl2 : decide ((1 : Int) < (len : Int)) = true := decide_eq_true (by omega)
        have hl3 : decide (1 < len) = true := decide_eq_true hl1
        obtain ⟨x0, M, rfl⟩ : ∃ x0 M, l = x0 :: M := by
          cases l with
          | nil => have := HL.out; simp at this; omega
          | cons x0 M => exact ⟨x0, M, rfl⟩
        obtain ⟨bb, off, k0, n0, d0, s0, l0, o0, len0, cap0, ho, hx0, e0, e1, e2, e3, e4, er⟩ := part_at2 HC.out HB3.out (j := 0) (x := x0) rfl
        subst ho hx0
        simp only [Nat.zero_mul, Nat.add_zero] at e0 e1 e2 e3 e4
        have hbl0 := cell_lt e0
        obtain ⟨_, _, _, bn0, bd0, _, _⟩ := er.open
        obtain ⟨hcb, hcr⟩ := HC.out
        rw [RepC] at hcr
        have HSM := Lib.hid (show RepS w w.heap.size M (.slice (some ⟨bb, off + 5, none⟩) (len - 1) (cap - 1)) from ⟨some ⟨bb, off + 5, none⟩, len - 1, cap - 1, rfl, by have := HL.out; simp at this; omega, by omega, by omega, fun _ => ⟨rfl, (hcb (by simp)).2⟩, hcr.2⟩)
        have HLM := Lib.hid (show len - 1 = M.length by have := HL.out; simp at this; omega)
        have HRM := Lib.hid (show Prims.sumsL 3 M n0 d0 = R by
          rw [← HRS.out]
          have : 1 < (Dat.mk k0 n0 d0 s0 l0 :: M).length := by rw [← HL.out]; exact hl1
          simp only [Prims.sumsR]
          rw [if_pos ⟨by decide, this⟩]; rfl)
        have hl0 : 0 < len := by omega
        have hlt6 := hb6.lt
        have HI0 := Lib.hid (show SumsI 3 R M true w.heap.size H6 w 0 (set5 W3 H6 (.int .i64 k0) (.int .i64 n0) (.int .i64 d0) (.string s0) (.slice o0 len0 cap0)) from
          ⟨⟨n0, d0, k0, s0, o0, len0, cap0, hb6.set _ _ _ _ _, bn0, bd0, .inl ⟨rfl, rfl⟩, by simpa using HRM.out⟩, (set5_heap _ _ _ _ _ _ _ (by omega)).trans HX3.out, (HB3.out.trans (set5_below W3 H6 w.heap.size _ _ _ _ _ (by omega)))⟩)
        obtain ⟨q0, q1, q2, q3, q4⟩ := hb6.cells
        obtain ⟨z0, z1, z2, z3, z4⟩ := hb6.free
        clear hcb hcr er
        go_wp2_with fail
        obtain ⟨m, hm⟩ : ∃ m, len - 1 = m := ⟨_, rfl⟩
        have hm1 : 1 ≤ m := by omega
        have hm2 : m < 9223372036854775807 := by omega
        rw [hm] at HLM
        simp only [hm]
        clear hm hb6 q0 q1 q2 q3 q4 z0 z1 z2 z3 z4 e0 e1 e2 e3 e4

        go_loopg [8] m (fun g q wr => ∃ j : Nat, g = m - j ∧ j ≤ m ∧ q = .int .i64 j ∧ SumsI 3 R M true w.heap.size H6 w j wr)
        case atStart => exact ⟨0, rfl, by omega, rfl, HI0.out⟩
        case round =>
          obtain ⟨j, rfl, hj, rfl, ⟨a, b, ka, sa, oa, la, ca, hbox, hab, hbb, hlf, hR⟩, hbx0, hb⟩ := hrel
          have HR2 := Lib.hid hR
          have HX := Lib.hid hbox
          have HX0 := Lib.hid hbx0
          have HB := Lib.hid hb
          have HLF := Lib.hid hlf
          have hlt := hbox.lt
          have hsz := hb.size
          clear hbx0 hb hlf hR
          by_cases hjl : j < m
          · obtain ⟨x, hx⟩ : ∃ x, M[j]? = some x := ⟨_, List.getElem?_eq_getElem (by rw [← HLM.out]; exact hjl)⟩
            obtain ⟨b1, off1, k1, n1, d1, s1, l1, o1, len1, cap1, ho1, hx1, e0, e1, e2, e3, e4, er⟩ := part_atS HSM.out HB.out hx
            simp only [Option.some.injEq, Addr.mk.injEq, and_true] at ho1
            obtain ⟨rfl, rfl⟩ := ho1
            subst hx1
            obtain ⟨_, _, _, bn1, bd1, _, _⟩ := er.open
            have HXX := Lib.hid hx
            have hbl := cell_lt e0
            obtain ⟨p, q, z, hs⟩ : ∃ p q z, Prims.step 3 a b n1 d1 = (p, q, z) := ⟨_, _, _, rfl⟩
            have HS := Lib.hid (show Num.rdiv a b n1 d1 = (p, q, z) by rw [← hs]; simp [Prims.step, Num.rdiv_eq])
            have bds := step_bd hs
            have HRS := Lib.hid ((sumsL_step HXX.out hs).symm.trans HR2.out)
            have HD := Lib.hid ((Below.refl wr.heap.size wr).drew)
            have E0 := Lib.hid e1
            have E1 := Lib.hid e2
            clear hx er hs e0 e1 e2 e3 e4 hbox
            go_wp2_with fail
            refine wp_region_quiet_all (Below wr.heap.size wr) (by kernel_rfl) (by kernel_rfl) HD.out ?_
            intro T0 _ W HW HW2
            have g1 : ∀ t, (W t).cell? _ = _ := fun t => ((HW t).cell (p := ⟨H6, 1, none⟩) hlt).trans HX.out.cells.2.1
            have g2 : ∀ t, (W t).cell? _ = _ := fun t => ((HW t).cell (p := ⟨H6, 2, none⟩) hlt).trans HX.out.cells.2.2.1
            have j1 : ∀ t, (W t).cell? _ = _ := fun t => ((HW t).cell (p := ⟨_, _, none⟩) hbl).trans E0.out
            have j2 : ∀ t, (W t).cell? _ = _ := fun t => ((HW t).cell (p := ⟨_, _, none⟩) hbl).trans E1.out
            have HC0 : Hid (∀ t, Calls Tryz.prog 76 #[.int .i64 a, .int .i64 b, .int .i64 n1, .int .i64 d1] (W t) fun e w' => e = .returned (.tuple #[.int .i64 p, .int .i64 q, .int .i64 z]) ∧ ∃ t', w' = W t') := Lib.hid (fun t => (rdiv_to a b n1 d1 p q z HS.out hab.1 hab.2 hbb.1 hbb.2 bn1.1 bn1.2 bd1.1 bd1.2 (W t)).mono fun e w' h => ⟨h.1, by obtain ⟨_, m, hm⟩ := h; exact HW2 _ (by rw [hm]; exact Below.drewN (HW t) m)⟩)
            have HWH := Lib.hid HW
            clear HW HW2
            repeat (go_big_quiet_step (first | (go_at_call 76; exact HC0.out _)))
            refine wpQuiet_nil ?_
            intro t
            have hbox3 : Box5 (W t) H6 26 (.int .i64 ka) (.int .i64 a) (.int .i64 b) (.string sa) (.slice oa la ca) := ((HWH.out t).block _ hlt).trans HX.out
            have hbx3 : Box5 (W t) w.heap.size 26 (.int .i64 0) (.int .i64 0) (.int .i64 0) (.string ⟨#[]⟩) (.slice none 0 0) := ((HWH.out t).block _ HX0.out.lt).trans HX0.out
            have HB3 := Lib.hid (Below.next HB.out (HWH.out t))
            have hs3 := HB3.out.size
            clear g1 g2 j1 j2
            by_cases hz : z = 0
            · subst hz
              have HN := Lib.hid (hbox3.set (.int .i64 0) (.int .i64 p) (.int .i64 q) (.string ⟨#[]⟩) (.slice none 0 0))
              have HM := Lib.hid (show Box5 (set5 (W t) H6 (.int .i64 0) (.int .i64 p) (.int .i64 q) (.string ⟨#[]⟩) (.slice none 0 0)) w.heap.size 26 (.int .i64 0) (.int .i64 0) (.int .i64 0) (.string ⟨#[]⟩) (.slice none 0 0) from (set5_heap _ _ _ _ _ _ _ (by omega)).trans hbx3)
              have HB4 := Lib.hid (HB3.out.trans (set5_below (W t) H6 w.heap.size (.int .i64 0) (.int .i64 p) (.int .i64 q) (.string ⟨#[]⟩) (.slice none 0 0) (by omega)))
              obtain ⟨q0, q1, q2, q3, q4⟩ := hbox3.cells
              obtain ⟨z0, z1, z2, z3, z4⟩ := hbox3.free
              have hlt3 := hbox3.lt
              go_wp2_with fail
              go_roundg (m - (j + 1))
              case measure => omega
              case rel => exact ⟨j + 1, rfl, by omega, by go_num, ⟨p, q, 0, ⟨#[]⟩, none, 0, 0, HN.out, by omega, by omega, .inr ⟨rfl, rfl, rfl, rfl, rfl⟩, by rw [← HRS.out]; simp⟩, HM.out, HB4.out⟩
            · have hz2 : (z != 0) = true := by simpa using hz
              obtain rfl : (Prims.zeroD, z) = R := by rw [← HRS.out, if_neg hz]
              obtain ⟨y0, y1, y2, y3, y4⟩ := hbx3.cells
              obtain ⟨v0, v1, v2, v3, v4⟩ := hbx3.free
              have hltM := hbx3.lt
              obtain ⟨r0, r1, r2, r3, r4⟩ := (hbx3.set (.int .i64 0) (.int .i64 0) (.int .i64 0) (.string ⟨#[]⟩) (.slice none 0 0)).cells
              have HB5 := Lib.hid (HB3.out.trans (set5_below (W t) w.heap.size w.heap.size (.int .i64 0) (.int .i64 0) (.int .i64 0) (.string ⟨#[]⟩) (.slice none 0 0) (Nat.le_refl _)))
              go_wp2_with fail
              exact bodyPost_ret (v := .tuple #[leafV 0 0 0, .int .i64 z]) (by simp [results, Tryz.results56, go_sem, leafV, r0, r1, r2, r3, r4]) rfl (endPost_leaf (by omega) (by omega) (by omega) rfl HB5.out)
          · obtain rfl : j = m := by omega
            obtain ⟨w0, w1, w2, w3, w4⟩ := HX.out.cells
            obtain ⟨y0, y1, y2, y3, y4⟩ := HX0.out.cells
            obtain ⟨v0, v1, v2, v3, v4⟩ := HX0.out.free
            have hlt0 := HX0.out.lt
            obtain ⟨rfl, rfl, rfl, rfl, rfl⟩ : ka = 0 ∧ sa = ⟨#[]⟩ ∧ oa = none ∧ la = 0 ∧ ca = 0 := by
              rcases HLF.out with ⟨h1, h2⟩ | h
              · omega
              · exact h
            obtain ⟨r0, r1, r2, r3, r4⟩ := (HX0.out.set (.int .i64 0) (.int .i64 a) (.int .i64 b) (.string ⟨#[]⟩) (.slice none 0 0)).cells
            have HB5 := Lib.hid (HB.out.trans (set5_below wr w.heap.size w.heap.size (.int .i64 0) (.int .i64 a) (.int .i64 b) (.string ⟨#[]⟩) (.slice none 0 0) (Nat.le_refl _)))
            have HRR := Lib.hid (show (Prims.num a b, 0) = R by rw [← HR2.out, List.drop_of_length_le (by rw [← HLM.out]; exact Nat.le_refl _)]; rfl)
            clear hbox
            go_wp2_with fail
            rw [← HRR.out]
            exact bodyPost_ret (v := .tuple #[leafV 0 a b, .int .i64 0]) (by simp [results, Tryz.results56, go_sem, leafV, r0, r1, r2, r3, r4]) rfl (endPost_leaf (by omega) hab hbb rfl HB5.out)

      · have hl2 : decide ((1 : Int) < (len : Int)) = false := decide_eq_false (by omega)
        have hl3 : decide (1 < len) = false := decide_eq_false hl1
        have HI0 := Lib.hid (show SumsI 3 R l false w.heap.size H6 w 0 W3 from ⟨⟨1, 1, 0, ⟨#[]⟩, none, 0, 0, hb6, by omega, by omega, .inr ⟨rfl, rfl, rfl, rfl, rfl⟩, by
            rw [← HRS.out]
            simp only [Prims.sumsR]
            rw [if_neg (by rw [← HL.out]; omega)]; rfl⟩, HX3.out, HB3.out⟩)
        clear hb6
        go_wp2_with fail

        go_loopg [8] len (fun g q wr => ∃ j : Nat, g = len - j ∧ j ≤ len ∧ q = .int .i64 j ∧ SumsI 3 R l false w.heap.size H6 w j wr)
        case atStart => exact ⟨0, rfl, by omega, rfl, HI0.out⟩
        case round =>
          obtain ⟨j, rfl, hj, rfl, ⟨a, b, ka, sa, oa, la, ca, hbox, hab, hbb, hlf, hR⟩, hbx0, hb⟩ := hrel
          have HR2 := Lib.hid hR
          have HX := Lib.hid hbox
          have HX0 := Lib.hid hbx0
          have HB := Lib.hid hb
          have HLF := Lib.hid hlf
          have hlt := hbox.lt
          have hsz := hb.size
          clear hbx0 hb hlf hR
          by_cases hjl : j < len
          · obtain ⟨x, hx⟩ : ∃ x, l[j]? = some x := ⟨_, List.getElem?_eq_getElem (by rw [← HL.out]; exact hjl)⟩
            obtain ⟨b1, off1, k1, n1, d1, s1, l1, o1, len1, cap1, ho1, hx1, e0, e1, e2, e3, e4, er⟩ := part_at2 HC.out HB.out hx
            subst ho1
            skip
            subst hx1
            obtain ⟨_, _, _, bn1, bd1, _, _⟩ := er.open
            have HXX := Lib.hid hx
            have hbl := cell_lt e0
            obtain ⟨p, q, z, hs⟩ : ∃ p q z, Prims.step 3 a b n1 d1 = (p, q, z) := ⟨_, _, _, rfl⟩
            have HS := Lib.hid (show Num.rdiv a b n1 d1 = (p, q, z) by rw [← hs]; simp [Prims.step, Num.rdiv_eq])
            have bds := step_bd hs
            have HRS := Lib.hid ((sumsL_step HXX.out hs).symm.trans HR2.out)
            have HD := Lib.hid ((Below.refl wr.heap.size wr).drew)
            have E0 := Lib.hid e1
            have E1 := Lib.hid e2
            clear hx er hs e0 e1 e2 e3 e4 hbox
            go_wp2_with fail
            refine wp_region_quiet_all (Below wr.heap.size wr) (by kernel_rfl) (by kernel_rfl) HD.out ?_
            intro T0 _ W HW HW2
            have g1 : ∀ t, (W t).cell? _ = _ := fun t => ((HW t).cell (p := ⟨H6, 1, none⟩) hlt).trans HX.out.cells.2.1
            have g2 : ∀ t, (W t).cell? _ = _ := fun t => ((HW t).cell (p := ⟨H6, 2, none⟩) hlt).trans HX.out.cells.2.2.1
            have j1 : ∀ t, (W t).cell? _ = _ := fun t => ((HW t).cell (p := ⟨_, _, none⟩) hbl).trans E0.out
            have j2 : ∀ t, (W t).cell? _ = _ := fun t => ((HW t).cell (p := ⟨_, _, none⟩) hbl).trans E1.out
            have HC0 : Hid (∀ t, Calls Tryz.prog 76 #[.int .i64 a, .int .i64 b, .int .i64 n1, .int .i64 d1] (W t) fun e w' => e = .returned (.tuple #[.int .i64 p, .int .i64 q, .int .i64 z]) ∧ ∃ t', w' = W t') := Lib.hid (fun t => (rdiv_to a b n1 d1 p q z HS.out hab.1 hab.2 hbb.1 hbb.2 bn1.1 bn1.2 bd1.1 bd1.2 (W t)).mono fun e w' h => ⟨h.1, by obtain ⟨_, m, hm⟩ := h; exact HW2 _ (by rw [hm]; exact Below.drewN (HW t) m)⟩)
            have HWH := Lib.hid HW
            clear HW HW2
            repeat (go_big_quiet_step (first | (go_at_call 76; exact HC0.out _)))
            refine wpQuiet_nil ?_
            intro t
            have hbox3 : Box5 (W t) H6 26 (.int .i64 ka) (.int .i64 a) (.int .i64 b) (.string sa) (.slice oa la ca) := ((HWH.out t).block _ hlt).trans HX.out
            have hbx3 : Box5 (W t) w.heap.size 26 (.int .i64 0) (.int .i64 0) (.int .i64 0) (.string ⟨#[]⟩) (.slice none 0 0) := ((HWH.out t).block _ HX0.out.lt).trans HX0.out
            have HB3 := Lib.hid (Below.next HB.out (HWH.out t))
            have hs3 := HB3.out.size
            clear g1 g2 j1 j2
            by_cases hz : z = 0
            · subst hz
              have HN := Lib.hid (hbox3.set (.int .i64 0) (.int .i64 p) (.int .i64 q) (.string ⟨#[]⟩) (.slice none 0 0))
              have HM := Lib.hid (show Box5 (set5 (W t) H6 (.int .i64 0) (.int .i64 p) (.int .i64 q) (.string ⟨#[]⟩) (.slice none 0 0)) w.heap.size 26 (.int .i64 0) (.int .i64 0) (.int .i64 0) (.string ⟨#[]⟩) (.slice none 0 0) from (set5_heap _ _ _ _ _ _ _ (by omega)).trans hbx3)
              have HB4 := Lib.hid (HB3.out.trans (set5_below (W t) H6 w.heap.size (.int .i64 0) (.int .i64 p) (.int .i64 q) (.string ⟨#[]⟩) (.slice none 0 0) (by omega)))
              obtain ⟨q0, q1, q2, q3, q4⟩ := hbox3.cells
              obtain ⟨z0, z1, z2, z3, z4⟩ := hbox3.free
              have hlt3 := hbox3.lt
              go_wp2_with fail
              go_roundg (len - (j + 1))
              case measure => omega
              case rel => exact ⟨j + 1, rfl, by omega, by go_num, ⟨p, q, 0, ⟨#[]⟩, none, 0, 0, HN.out, by omega, by omega, .inr ⟨rfl, rfl, rfl, rfl, rfl⟩, by rw [← HRS.out]; simp⟩, HM.out, HB4.out⟩
            · have hz2 : (z != 0) = true := by simpa using hz
              obtain rfl : (Prims.zeroD, z) = R := by rw [← HRS.out, if_neg hz]
              obtain ⟨y0, y1, y2, y3, y4⟩ := hbx3.cells
              obtain ⟨v0, v1, v2, v3, v4⟩ := hbx3.free
              have hltM := hbx3.lt
              obtain ⟨r0, r1, r2, r3, r4⟩ := (hbx3.set (.int .i64 0) (.int .i64 0) (.int .i64 0) (.string ⟨#[]⟩) (.slice none 0 0)).cells
              have HB5 := Lib.hid (HB3.out.trans (set5_below (W t) w.heap.size w.heap.size (.int .i64 0) (.int .i64 0) (.int .i64 0) (.string ⟨#[]⟩) (.slice none 0 0) (Nat.le_refl _)))
              go_wp2_with fail
              exact bodyPost_ret (v := .tuple #[leafV 0 0 0, .int .i64 z]) (by simp [results, Tryz.results56, go_sem, leafV, r0, r1, r2, r3, r4]) rfl (endPost_leaf (by omega) (by omega) (by omega) rfl HB5.out)
          · obtain rfl : j = len := by omega
            obtain ⟨w0, w1, w2, w3, w4⟩ := HX.out.cells
            obtain ⟨y0, y1, y2, y3, y4⟩ := HX0.out.cells
            obtain ⟨v0, v1, v2, v3, v4⟩ := HX0.out.free
            have hlt0 := HX0.out.lt
            obtain ⟨rfl, rfl, rfl, rfl, rfl⟩ : ka = 0 ∧ sa = ⟨#[]⟩ ∧ oa = none ∧ la = 0 ∧ ca = 0 := by
              rcases HLF.out with ⟨h1, h2⟩ | h
              · cases h1
              · exact h
            obtain ⟨r0, r1, r2, r3, r4⟩ := (HX0.out.set (.int .i64 0) (.int .i64 a) (.int .i64 b) (.string ⟨#[]⟩) (.slice none 0 0)).cells
            have HB5 := Lib.hid (HB.out.trans (set5_below wr w.heap.size w.heap.size (.int .i64 0) (.int .i64 a) (.int .i64 b) (.string ⟨#[]⟩) (.slice none 0 0) (Nat.le_refl _)))
            have HRR := Lib.hid (show (Prims.num a b, 0) = R by rw [← HR2.out, List.drop_of_length_le (by rw [← HL.out]; exact Nat.le_refl _)]; rfl)
            clear hbox
            go_wp2_with fail
            rw [← HRR.out]
            exact bodyPost_ret (v := .tuple #[leafV 0 a b, .int .i64 0]) (by simp [results, Tryz.results56, go_sem, leafV, r0, r1, r2, r3, r4]) rfl (endPost_leaf (by omega) hab hbb rfl HB5.out)
end Go.Proofs.YtnpiekniignfcaaGreatDoor
