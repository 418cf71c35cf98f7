/-
  The contracts of corbelref05.Find, Fold.
-/
import Derived.Test.YtnpiekniignfcaaGreatDoorFind
import Derived.Test.YtnpiekniignfcaaGreatDoorRFacts
import Derived.Test.YtnpiekniignfcaaGreatDoorRDoes3
namespace Go.Proofs.YtnpiekniignfcaaGreatDoor
open Go.RowKit

theorem findFrom_step {l : List Fact} {j i : Nat} {f : Fact} {s : ByteArray} (h : l[j]? = some f) : Prims.findFrom s (l.drop j) i = if f.name = s then ((i : Int), true) else Prims.findFrom s (l.drop (j + 1)) (i + 1) := by
  obtain ⟨hj, he⟩ := List.getElem?_eq_some_iff.1 h
  rw [List.drop_eq_getElem_cons hj, Prims.findFrom, he]

theorem facts_at (j : Nat) (hj : j < 31) : Prims.table[j]? = some (Prims.facts (j : Int)) := by
  rw [Prims.facts, if_pos (by omega), Int.toNat_natCast, List.getD_eq_getElem?_getD]
  have : j < Prims.table.length := hj
  rw [List.getElem?_eq_getElem this]; rfl

set_option maxHeartbeats 2000000 in
set_option maxRecDepth 100000 in
theorem rfind_any (s : ByteArray) (w : World) :
    Calls Tryz.prog 23 #[.string s] w fun e w' => e = .returned (.tuple #[.int .i64 (Prims.find s).1, .bool (Prims.find s).2]) ∧ Below w.heap.size w w' := by
  by_cases hs : s = ⟨#[37, 101, 113, 63]⟩
  · subst hs
    go_enter Tryz.func23, Tryz.ntmps23
    go_wp2_with fail
    exact bodyPost_ret (v := .tuple #[.int .i64 6, .bool true]) (by simp [results, Tryz.results23, go_sem]) rfl ⟨by rw [Prims.find, if_pos rfl], Below.refl _ _⟩
  · have hs2 : (s.toList == [37, 101, 113, 63]) = false := by
      rw [Bool.eq_false_iff]
      intro h3
      apply hs
      apply ByteArray.ext; apply Array.ext'
      rw [← ByteArray.toList_eq]; exact beq_iff_eq.1 h3
    obtain ⟨⟨z, b⟩, hR⟩ : ∃ R, Prims.find s = R := ⟨_, rfl⟩
    have HR := Lib.hid (show Prims.findFrom s (Prims.table.drop 0) 0 = (z, b) by rw [List.drop_zero, ← hR, Prims.find, if_neg hs])
    rw [hR]
    clear hR
    go_enter Tryz.func23, Tryz.ntmps23
    go_wp2_with fail
    go_loopg [4] 31 (fun g q wr => ∃ j : Nat, g = 31 - j ∧ j ≤ 31 ∧ q = .int .i64 j ∧ Hid (Prims.findFrom s (Prims.table.drop j) j = (z, b)) ∧ Below w.heap.size w wr)
    case atStart => exact ⟨0, rfl, by omega, rfl, HR, Below.refl _ _⟩
    case round =>
      obtain ⟨j, rfl, hj, rfl, HA, hb⟩ := hrel
      have HB := Lib.hid hb
      have hsz := hb.size
      clear hb
      by_cases hjl : j < 31
      · obtain ⟨f0, f1, f2, f3, f4, hF⟩ : ∃ f0 f1 f2 f3 f4, Prims.facts (j : Int) = ⟨f0, f1, f2, f3, f4⟩ := ⟨_, _, _, _, _, rfl⟩
        have HF := Lib.hid hF
        have HS := Lib.hid ((findFrom_step (i := j) (s := s) (facts_at j hjl)).symm.trans HA.out)
        rw [hF] at HS
        have HH := Lib.hid (show Prims.has (j : Int) = true by simp [Prims.has]; omega)
        have hj30 : decide ((j : Int) ≤ 30) = true := by simp; omega
        clear hF HA
        go_wp2_with fail
        refine (rfacts_to (j : Int) f0 f1 f2 f3 f4 true HF.out HH.out _).mono ?_
        rintro e1 w1 ⟨rfl, hb1⟩
        have HB1 := Lib.hid (Below.next HB.out hb1)
        have hs1 := HB1.out.size
        clear hb1
        by_cases hq : f0 = s
        · subst hq
          have hT := HS.out
          rw [if_pos rfl] at hT
          simp only [Prod.mk.injEq] at hT
          obtain ⟨rfl, rfl⟩ := hT
          go_wp2_with fail
          exact bodyPost_ret (v := .tuple #[.int .i64 j, .bool true]) (by simp [results, Tryz.results23, go_sem]) rfl ⟨rfl, HB1.out.alloc hs1 _⟩
        · have hq2 : (f0.toList == s.toList) = false := by
            rw [Bool.eq_false_iff]
            intro h3
            apply hq
            apply ByteArray.ext; apply Array.ext'
            rw [← ByteArray.toList_eq, ← ByteArray.toList_eq]; exact beq_iff_eq.1 h3
          have HT := Lib.hid (show Prims.findFrom s (Prims.table.drop (j + 1)) (j + 1) = (z, b) by rw [← HS.out, if_neg hq])
          clear HS
          go_wp2_with fail
          go_roundg (31 - (j + 1))
          case measure => omega
          case rel => exact ⟨j + 1, rfl, by omega, by go_num, HT, HB1.out.alloc hs1 _⟩
      · obtain rfl : 31 = j := by omega
        have hT := HA.out
        rw [show Prims.table.drop 31 = [] from rfl, Prims.findFrom] at hT
        simp only [Prod.mk.injEq] at hT
        obtain ⟨rfl, rfl⟩ := hT
        go_wp2_with fail
        exact bodyPost_ret (v := .tuple #[.int .i64 0, .bool false]) (by simp [results, Tryz.results23, go_sem]) rfl ⟨rfl, HB.out⟩

theorem rtakes_to (n k : Int) (b : Bool) (h : Prims.takes n k = b) (h0 : -9223372036854775808 ≤ n) (h1 : n ≤ 9223372036854775807) (w : World) :
    Calls Tryz.prog 24 #[.int .i64 n, .int .i64 k] w fun e w' => e = .returned (.bool b) ∧ Below w.heap.size w w' := by
  rw [← h]; exact rtakes_any n k h0 h1 w

theorem all_right_false {l : List Dat} {j : Nat} {x : Dat} (hx : l[j]? = some x) (h : Dat.right x 0 = false) : (l.all fun x => Dat.right x 0) = false := by
  rw [List.all_eq_false]
  exact ⟨x, List.mem_of_getElem? hx, by simp [h]⟩
theorem all_right_true {l : List Dat} (h : ∀ (i : Nat) (x : Dat), l[i]? = some x → Dat.right x 0 = true) : ∀ x ∈ l, Dat.right x 0 = true := by
  intro x hx
  obtain ⟨i, hi⟩ := List.getElem?_of_mem hx
  exact h i x hi

set_option maxHeartbeats 4000000 in
set_option maxRecDepth 100000 in
theorem rfold_any (n : Int) (h0 : -9223372036854775808 ≤ n) (h1 : n ≤ 9223372036854775807) (l : List Dat) (sl : Value) (B : Nat) (w : World) (hv : RepS w B l sl) (hB : B ≤ w.heap.size) :
    Calls Tryz.prog 13 #[.int .i64 n, sl] w (FoldPost w.heap.size (Prims.fold n l) w) := by
  obtain ⟨o, len, cap, rfl, hl, hcap, hmax, hc⟩ := hv.wider hB
  obtain ⟨b, hb⟩ : ∃ b, Prims.has n = b := ⟨_, rfl⟩
  obtain ⟨F, hF⟩ : ∃ F, Prims.facts n = F := ⟨_, rfl⟩
  obtain ⟨f0, f1, f2, f3, f4⟩ := F
  obtain ⟨R, hR⟩ : ∃ R, Prims.fold n l = R := ⟨_, rfl⟩
  obtain ⟨t, ht⟩ : ∃ t, Prims.takes n l.length = t := ⟨_, rfl⟩
  rw [hR]
  unfold Prims.fold at hR
  rw [hb, hF] at hR
  have HR := Lib.hid hR
  have HC := Lib.hid hc
  have HL := Lib.hid hl
  have HFC := Lib.hid (fun W => rfacts_to n f0 f1 f2 f3 f4 b hF hb W)
  have HD := Lib.hid (fun (hr : ∀ x ∈ l, Dat.right x 0 = true) (ht : Prims.takes n l.length = true) (hh : Prims.has n = true) (hf : (Prims.facts n).folds = true) W (hb : Below w.heap.size w W) => rdoes_any n l _ w.heap.size W ((hv.wider hB).kept hb) hb.size hr ht hh hf)
  have HF := Lib.hid hF
  have HBB := Lib.hid hb
  have HT := Lib.hid ht
  have HTC := Lib.hid (fun W => rtakes_to n len t (by rw [hl]; exact ht) h0 h1 W)
  rw [hb, hF] at HD
  clear hc hl hR hv hF hb ht
  have HK := Lib.hid (show ClsZ w (w.alloc (.cells #[.int .i64 0, .int .i64 0, .int .i64 0, .string ⟨#[]⟩, .slice none 0 0] 26)) from ClsZ.new w)
  by_cases hbf : (b && f4) = false
  · have hRR := HR.out
    have HRR := Lib.hid (show (Prims.zeroD, (0 : Int), false) = R by
      rw [← hRR, if_neg]
      intro hh
      simp only [Bool.and_eq_true] at hh
      rw [hh.1, hh.2.1] at hbf
      cases hbf)
    clear hRR HR HD HC HTC HT
    go_enter Tryz.func13, Tryz.ntmps13
    go_wp2_with fail
    refine (HFC.out _).mono ?_
    rintro e1 w1 ⟨rfl, hb1⟩
    have HN1 := Lib.hid (HK.out.next hb1)
    have hs1 := HN1.out.1.size
    clear hb1
    have hbox := HN1.out.2.1
    have hlt := hbox.lt
    obtain ⟨q0, q1, q2, q3, q4⟩ := hbox.cells
    obtain ⟨z0, z1, z2, z3, z4⟩ := hbox.free
    obtain ⟨r0, r1, r2, r3, r4⟩ := (hbox.set (.int .i64 0) (.int .i64 0) (.int .i64 0) (.string ⟨#[]⟩) (.slice none 0 0)).cells
    have HBF := Lib.hid (HN1.out.1.trans (set5_below w1 w.heap.size w.heap.size (.int .i64 0) (.int .i64 0) (.int .i64 0) (.string ⟨#[]⟩) (.slice none 0 0) (Nat.le_refl _)))
    cases b <;> cases f4
    all_goals first
      | (simp at hbf; done)
      | skip
    all_goals
      go_wp2_with fail
      rw [← HRR.out]
      refine bodyPost_ret (v := .tuple #[leafV 0 0 0, .int .i64 0, .bool false]) (by simp [results, Tryz.results13, go_sem, leafV, r0, r1, r2, r3, r4, hlt]) rfl (foldPost_leaf (by omega) (by omega) (by omega) rfl ?_)
      first | exact HBF.out | exact HBF.out.alloc (by simp; omega) _ | fail
  · obtain ⟨rfl, rfl⟩ : b = true ∧ f4 = true := by cases b <;> cases f4 <;> simp_all
    have HRT := Lib.hid (show (l.all fun x => Dat.right x 0) = true → (if t = true then ((Prims.does n l).1, (Prims.does n l).2, true) else (Prims.zeroD, 2, true)) = R by
      intro h; rw [← HR.out, h, HT.out]; simp)
    have HRF := Lib.hid (show (l.all fun x => Dat.right x 0) = false → (Prims.zeroD, (0 : Int), false) = R by
      intro h; rw [← HR.out, h]; simp)
    clear HR hbf
    go_enter Tryz.func13, Tryz.ntmps13
    go_wp2_with fail
    refine (HFC.out _).mono ?_
    rintro e1 w1 ⟨rfl, hb1⟩
    have HN1 := Lib.hid (HK.out.next hb1)
    have hs1 := HN1.out.1.size
    have HN2 := Lib.hid (HN1.out.alloc (.cells #[.string f0, .int .i64 f1, .int .i64 f2, .bool f3, .bool true] 43))
    clear hb1
    go_wp2_with fail
    go_loopg [9] len (fun g q wr => ∃ j : Nat, g = len - j ∧ j ≤ len ∧ q = .int .i64 j ∧ Hid (∀ (i : Nat) (x : Dat), i < j → l[i]? = some x → Dat.right x 0 = true) ∧ ClsZ w wr)
    case atStart => exact ⟨0, rfl, by omega, rfl, Lib.hid (fun i x h => absurd h (by omega)), HN2.out⟩
    case round =>
      obtain ⟨j, rfl, hj, rfl, HA, hcl⟩ := hrel
      have HCL := Lib.hid hcl
      have hsz := hcl.1.size
      clear hcl
      by_cases hjl : j < len
      · obtain ⟨x, hx⟩ : ∃ x, l[j]? = some x := ⟨_, List.getElem?_eq_getElem (by rw [← HL.out]; exact hjl)⟩
        obtain ⟨b1, off1, k1, n1, d1, s1, l1, o1, len1, cap1, ho1, hx1, e0, e1, e2, e3, e4, er⟩ := part_at2 HC.out HCL.out.1 hx
        subst ho1 hx1
        obtain ⟨q, hq⟩ : ∃ q, Dat.right (.mk k1 n1 d1 s1 l1) 0 = q := ⟨_, rfl⟩
        have HX := Lib.hid hx
        have HQ := Lib.hid hq
        have ER := Lib.hid er
        have hbl := cell_lt e0
        clear hx hq er
        go_wp2_with fail
        refine (rRight_to _ _ w.heap.size wr q HQ.out ER.out hsz).mono ?_
        rintro e1 w2 ⟨rfl, hb2⟩
        have HC2 := Lib.hid (HCL.out.next hb2)
        clear hb2
        cases q with
        | true =>
          go_wp2_with fail
          go_roundg (len - (j + 1))
          case measure => omega
          case rel =>
            refine ⟨j + 1, rfl, by omega, by go_num, Lib.hid ?_, HC2.out⟩
            intro i x hi hx
            by_cases hij : i < j
            · exact HA.out i x hij hx
            · obtain rfl : i = j := by omega
              have := HX.out.symm.trans hx
              simp only [Option.some.injEq] at this
              rw [← this]; exact HQ.out
        | false =>
          obtain rfl : (Prims.zeroD, (0 : Int), false) = R := HRF.out (all_right_false HX.out HQ.out)
          have hbox := HC2.out.2.1
          have hlt := hbox.lt
          obtain ⟨q0, q1, q2, q3, q4⟩ := hbox.cells
          obtain ⟨z0, z1, z2, z3, z4⟩ := hbox.free
          obtain ⟨r0, r1, r2, r3, r4⟩ := (hbox.set (.int .i64 0) (.int .i64 0) (.int .i64 0) (.string ⟨#[]⟩) (.slice none 0 0)).cells
          have HBF := Lib.hid (HC2.out.1.trans (set5_below w2 w.heap.size w.heap.size (.int .i64 0) (.int .i64 0) (.int .i64 0) (.string ⟨#[]⟩) (.slice none 0 0) (Nat.le_refl _)))
          go_wp2_with fail
          exact bodyPost_ret (v := .tuple #[leafV 0 0 0, .int .i64 0, .bool false]) (by simp [results, Tryz.results13, go_sem, leafV, r0, r1, r2, r3, r4]) rfl (foldPost_leaf (by omega) (by omega) (by omega) rfl HBF.out)
      · obtain rfl : len = j := by omega
        have HAL := Lib.hid (all_right_true (l := l) (fun i x hx => HA.out i x (by have := (List.getElem?_eq_some_iff.1 hx).1; rw [← HL.out] at this; omega) hx))
        have HRR := Lib.hid (HRT.out (List.all_eq_true.2 HAL.out))
        clear HA HRT HRF
        go_wp2_with fail
        refine (HTC.out _).mono ?_
        rintro e1 w3 ⟨rfl, hb3⟩
        have HC3 := Lib.hid (HCL.out.next hb3)
        clear hb3
        cases t with
        | false =>
          obtain rfl : (Prims.zeroD, (2 : Int), true) = R := by rw [← HRR.out]; simp
          have hbox := HC3.out.2.1
          have hlt := hbox.lt
          obtain ⟨q0, q1, q2, q3, q4⟩ := hbox.cells
          obtain ⟨z0, z1, z2, z3, z4⟩ := hbox.free
          obtain ⟨r0, r1, r2, r3, r4⟩ := (hbox.set (.int .i64 0) (.int .i64 0) (.int .i64 0) (.string ⟨#[]⟩) (.slice none 0 0)).cells
          have HBF := Lib.hid (HC3.out.1.trans (set5_below w3 w.heap.size w.heap.size (.int .i64 0) (.int .i64 0) (.int .i64 0) (.string ⟨#[]⟩) (.slice none 0 0) (Nat.le_refl _)))
          go_wp2_with fail
          exact bodyPost_ret (v := .tuple #[leafV 0 0 0, .int .i64 2, .bool true]) (by simp [results, Tryz.results13, go_sem, leafV, r0, r1, r2, r3, r4]) rfl (foldPost_leaf (by omega) (by omega) (by omega) rfl HBF.out)
        | true =>
          obtain rfl : ((Prims.does n l).1, (Prims.does n l).2, true) = R := by rw [← HRR.out]; simp
          clear HRR
          go_wp2_with fail
          refine (HD.out HAL.out (by first | exact HT.out | simp) (by first | rfl | simp) (by first | rfl | simp) _ HC3.out.1).mono ?_
          rintro e1 w4 ⟨k, n', d, s, o', len', cap', rfl, hrep, hb4⟩
          have HC4 := Lib.hid (HC3.out.next hb4)
          have HREP := Lib.hid hrep
          generalize (Prims.does n l).2 = z at *
          clear hb4 hrep
          have hbox := HC4.out.2.1
          have hlt := hbox.lt
          have hs4 := HC4.out.1.size
          obtain ⟨q0, q1, q2, q3, q4⟩ := hbox.cells
          obtain ⟨z0, z1, z2, z3, z4⟩ := hbox.free
          obtain ⟨r0, r1, r2, r3, r4⟩ := (hbox.set (.int .i64 k) (.int .i64 n') (.int .i64 d) (.string s) (.slice o' len' cap')).cells
          go_wp2_with fail
          refine bodyPost_ret (v := .tuple #[.agg #[.int .i64 k, .int .i64 n', .int .i64 d, .string s, .slice o' len' cap'], .int .i64 z, .bool true]) (by simp [results, Tryz.results13, go_sem, r0, r1, r2, r3, r4, hlt]) rfl ⟨k, n', d, s, o', len', cap', rfl, ?_, ?_⟩
          · have h1 : Below w.heap.size w4 ((set5 w4 w.heap.size (.int .i64 k) (.int .i64 n') (.int .i64 d) (.string s) (.slice o' len' cap')).alloc (.cells #[.int .i64 k, .int .i64 n', .int .i64 d, .string s, .slice o' len' cap'] 26)) := (set5_below w4 w.heap.size w.heap.size _ _ _ _ _ (Nat.le_refl _)).alloc (by simp; omega) _
            exact HREP.out.kept h1
          · exact (HC4.out.1.trans (set5_below w4 w.heap.size w.heap.size _ _ _ _ _ (Nat.le_refl _))).alloc (by simp; omega) _
end Go.Proofs.YtnpiekniignfcaaGreatDoor
