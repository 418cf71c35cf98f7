/-
  The contract of prims.Fold, from does'.
-/
import Derived.Test.YtnpiekniignfcaaGreatDoorStep
import Derived.Test.YtnpiekniignfcaaGreatDoorFacts
import Derived.Test.YtnpiekniignfcaaGreatDoorAwakes
import Derived.Deep.Cut
namespace Go.Proofs.YtnpiekniignfcaaGreatDoor
open Go.RowKit

/-- A datum, an end and whether it folds are handed back. -/
def FoldPost (B2 : Nat) (r : Dat × Int × Bool) (w : World) (e : Ending) (w' : World) : Prop := ∃ (k n d : Int) (s : ByteArray) (o : Option Addr) (len cap : Nat), e = .returned (.tuple #[.agg #[.int .i64 k, .int .i64 n, .int .i64 d, .string s, .slice o len cap], .int .i64 r.2.1, .bool r.2.2]) ∧ RepD w' B2 r.1 (.agg #[.int .i64 k, .int .i64 n, .int .i64 d, .string s, .slice o len cap]) ∧ Below w.heap.size w w'
theorem foldPost_leaf {B2 : Nat} {x : Dat} {e k n d : Int} {b : Bool} {w w' : World} (hk : -9223372036854775808 ≤ k ∧ k ≤ 9223372036854775807) (hn : -9223372036854775808 ≤ n ∧ n ≤ 9223372036854775807) (hd : -9223372036854775808 ≤ d ∧ d ≤ 9223372036854775807) (hx : x = .mk k n d ⟨#[]⟩ []) (hb : Below w.heap.size w w') : FoldPost B2 (x, e, b) w (.returned (.tuple #[leafV k n d, .int .i64 e, .bool b])) w' :=
  ⟨k, n, d, ⟨#[]⟩, none, 0, 0, rfl, by rw [hx]; exact rep_leaf k n d ⟨#[]⟩ hk hn hd (by decide), hb⟩

set_option maxHeartbeats 4000000 in
set_option maxRecDepth 100000 in
theorem fold_of (n : Int) (h0 : -9223372036854775808 ≤ n) (h1 : n ≤ 9223372036854775807) (l : List Dat) (sl : Value) (B : Nat) (w : World) (hv : RepS w B l sl) (hB : B ≤ w.heap.size)
    (hD : (∀ x ∈ l, Dat.right x 0 = true) → Prims.takes n l.length = true → Prims.has n = true → (Prims.facts n).folds = true → ∀ W, Below w.heap.size w W → Calls Tryz.prog 30 #[.int .i64 n, sl] W (EndPost w.heap.size (Prims.does n l) W)) :
    Calls Tryz.prog 12 #[.int .i64 n, sl] w (FoldPost w.heap.size (Prims.fold n l) w) := by
  obtain ⟨o, len, cap, rfl, hl, hcap, hmax, hc⟩ := hv.wider hB
  obtain ⟨b, hb⟩ : ∃ b, Prims.has n = b := ⟨_, rfl⟩
  obtain ⟨F, hF⟩ : ∃ F, Prims.facts n = F := ⟨_, rfl⟩
  obtain ⟨f0, f1, f2, f3, f4⟩ := F
  obtain ⟨r, hr⟩ : ∃ r, (l.any fun x => !Dat.right x 0) = r := ⟨_, rfl⟩
  obtain ⟨t, ht⟩ : ∃ t, Prims.takes n l.length = t := ⟨_, rfl⟩
  obtain ⟨R, hR⟩ : ∃ R, Prims.fold n l = R := ⟨_, rfl⟩
  rw [hR]
  have hall : (l.all fun x => Dat.right x 0) = !r := by rw [← hr, List.not_any_eq_all_not]; simp
  unfold Prims.fold at hR
  rw [hb, hF, hall, ht] at hR
  dsimp only at hR
  rw [hb, hF, ht] at hD
  have HD := Lib.hid hD
  have HR := Lib.hid hR
  have HFC := Lib.hid (fun W => facts_to n f0 f1 f2 f3 f4 b hF hb h0 h1 W)
  have HTC := Lib.hid (fun W => takes_any n l.length h0 h1 W)
  rw [ht, ← hl] at HTC
  have HAL := Lib.hid (show r = false → ∀ x ∈ l, Dat.right x 0 = true from fun h => by
    rw [h] at hall
    exact fun x hx => List.all_eq_true.1 hall x hx)
  have HCF := Lib.hid (fun W (hb : Below w.heap.size w W) => containsFunc_any 29 #[] (fun x => !Dat.right x 0) r l o len cap w.heap.size W hl hcap hmax (by
      cases o with
      | none => exact hc
      | some a => exact ⟨fun h => hc.1 h, if h : l = [] then by rw [h, RepC]; trivial else hc.2.kept (hc.1 h).2 hb⟩) hb.size (fun args w => Tryz.call29 args w) (fun x _ v w' hx hw => fold1_any x v w.heap.size w' hx (Nat.le_trans hb.size hw.size)) hr)
  clear hc hR hv hF hb hr ht hall hD hl
  have HK := Lib.hid (fun X => (Below.refl w.heap.size w).alloc (Nat.le_refl _) X)
  go_enter Tryz.func12, Tryz.ntmps12
  go_wp2_with fail
  refine (HFC.out _).mono ?_
  rintro e1 w1 ⟨rfl, hb1⟩
  have HX1 := Lib.hid (show Box5 w1 w.heap.size 26 (.int .i64 0) (.int .i64 0) (.int .i64 0) (.string ⟨#[]⟩) (.slice none 0 0) from (hb1.block _ (by simp)).trans (Box5.new w _ _ _ _ _ _))
  have HB1 := Lib.hid (one_below hb1)
  have hs1 := HB1.out.size
  clear hb1
  cases b with
  | false =>
    obtain ⟨q0, q1, q2, q3, q4⟩ := HX1.out.cells
    obtain ⟨z0, z1, z2, z3, z4⟩ := HX1.out.free
    have hlt := HX1.out.lt
    obtain ⟨r0, r1, r2, r3, r4⟩ := (HX1.out.set (.int .i64 0) (.int .i64 0) (.int .i64 0) (.string ⟨#[]⟩) (.slice none 0 0)).cells
    have hR2 := HR.out
    have HBF := Lib.hid (HB1.out.trans (set5_below w1 w.heap.size w.heap.size (.int .i64 0) (.int .i64 0) (.int .i64 0) (.string ⟨#[]⟩) (.slice none 0 0) (Nat.le_refl _)))
    obtain rfl : (Prims.zeroD, (0 : Int), false) = R := by rw [← hR2]; simp
    clear hR2 HR
    go_wp2_with fail
    refine bodyPost_ret (v := .tuple #[leafV 0 0 0, .int .i64 0, .bool false]) (by simp [results, Tryz.results12, go_sem, leafV, r0, r1, r2, r3, r4, hlt]) rfl (foldPost_leaf (by omega) (by omega) (by omega) rfl ?_)
    first | exact HBF.out | exact HBF.out.alloc (by simp; omega) _ | fail
  | true =>
    cases f4 with
    | false =>
      obtain ⟨q0, q1, q2, q3, q4⟩ := HX1.out.cells
      obtain ⟨z0, z1, z2, z3, z4⟩ := HX1.out.free
      have hlt := HX1.out.lt
      obtain ⟨r0, r1, r2, r3, r4⟩ := (HX1.out.set (.int .i64 0) (.int .i64 0) (.int .i64 0) (.string ⟨#[]⟩) (.slice none 0 0)).cells
      have hR2 := HR.out
      have HBF := Lib.hid (HB1.out.trans (set5_below w1 w.heap.size w.heap.size (.int .i64 0) (.int .i64 0) (.int .i64 0) (.string ⟨#[]⟩) (.slice none 0 0) (Nat.le_refl _)))
      obtain rfl : (Prims.zeroD, (0 : Int), false) = R := by rw [← hR2]; simp
      clear hR2 HR
      go_wp2_with fail
      refine bodyPost_ret (v := .tuple #[leafV 0 0 0, .int .i64 0, .bool false]) (by simp [results, Tryz.results12, go_sem, leafV, r0, r1, r2, r3, r4, hlt]) rfl (foldPost_leaf (by omega) (by omega) (by omega) rfl ?_)
      first | exact HBF.out | exact HBF.out.alloc (by simp; omega) _ | fail
    | true =>
      have hlt1 := HX1.out.lt
      go_wp2_with fail
      refine (HCF.out _ (HB1.out.alloc hs1 _)).mono ?_
      rintro e1 w2 ⟨rfl, hb2⟩
      have HX2 := Lib.hid (show Box5 w2 w.heap.size 26 (.int .i64 0) (.int .i64 0) (.int .i64 0) (.string ⟨#[]⟩) (.slice none 0 0) from (hb2.block _ (by simp; omega)).trans (HX1.out.alloc _))
      have HB2 := Lib.hid (Below.next (HB1.out.alloc hs1 _) hb2)
      have hs2 := HB2.out.size
      clear hb2 hlt1
      cases r with
      | true =>
        obtain ⟨q0, q1, q2, q3, q4⟩ := HX2.out.cells
        obtain ⟨z0, z1, z2, z3, z4⟩ := HX2.out.free
        have hlt := HX2.out.lt
        obtain ⟨r0, r1, r2, r3, r4⟩ := (HX2.out.set (.int .i64 0) (.int .i64 0) (.int .i64 0) (.string ⟨#[]⟩) (.slice none 0 0)).cells
        have hR2 := HR.out
        have HBF := Lib.hid (HB2.out.trans (set5_below w2 w.heap.size w.heap.size (.int .i64 0) (.int .i64 0) (.int .i64 0) (.string ⟨#[]⟩) (.slice none 0 0) (Nat.le_refl _)))
        obtain rfl : (Prims.zeroD, (0 : Int), false) = R := by rw [← hR2]; simp
        clear hR2 HR
        go_wp2_with fail
        refine bodyPost_ret (v := .tuple #[leafV 0 0 0, .int .i64 0, .bool false]) (by simp [results, Tryz.results12, go_sem, leafV, r0, r1, r2, r3, r4]) rfl (foldPost_leaf (by omega) (by omega) (by omega) rfl ?_)
        first | exact HBF.out | exact HBF.out.alloc (by simp; omega) _ | fail
      | false =>
        go_wp2_with fail
        refine (HTC.out _).mono ?_
        rintro e1 w3 ⟨rfl, hb3⟩
        have HX3 := Lib.hid (show Box5 w3 w.heap.size 26 (.int .i64 0) (.int .i64 0) (.int .i64 0) (.string ⟨#[]⟩) (.slice none 0 0) from (hb3.block _ HX2.out.lt).trans HX2.out)
        have HB3 := Lib.hid (Below.next HB2.out hb3)
        have hs3 := HB3.out.size
        clear hb3
        cases t with
        | false =>
          obtain ⟨q0, q1, q2, q3, q4⟩ := HX3.out.cells
          obtain ⟨z0, z1, z2, z3, z4⟩ := HX3.out.free
          have hlt := HX3.out.lt
          obtain ⟨r0, r1, r2, r3, r4⟩ := (HX3.out.set (.int .i64 0) (.int .i64 0) (.int .i64 0) (.string ⟨#[]⟩) (.slice none 0 0)).cells
          have hR2 := HR.out
          have HBF := Lib.hid (HB3.out.trans (set5_below w3 w.heap.size w.heap.size (.int .i64 0) (.int .i64 0) (.int .i64 0) (.string ⟨#[]⟩) (.slice none 0 0) (Nat.le_refl _)))
          obtain rfl : (Prims.zeroD, (2 : Int), true) = R := by rw [← hR2]; simp
          clear hR2 HR
          go_wp2_with fail
          refine bodyPost_ret (v := .tuple #[leafV 0 0 0, .int .i64 2, .bool true]) (by simp [results, Tryz.results12, go_sem, leafV, r0, r1, r2, r3, r4]) rfl (foldPost_leaf (by omega) (by omega) (by omega) rfl ?_)
          first | exact HBF.out | exact HBF.out.alloc (by simp; omega) _ | fail
        | true =>
          have hR2 := HR.out
          obtain rfl : ((Prims.does n l).1, (Prims.does n l).2, true) = R := by rw [← hR2]; simp
          clear hR2 HR
          go_wp2_with fail
          refine (HD.out (HAL.out (by simp)) (by simp) (by simp) (by simp) _ HB3.out).mono ?_
          rintro e1 w4 ⟨k, n', d, s, o', len', cap', rfl, hrep, hb4⟩
          have HX4 := Lib.hid (show Box5 w4 w.heap.size 26 (.int .i64 0) (.int .i64 0) (.int .i64 0) (.string ⟨#[]⟩) (.slice none 0 0) from (hb4.block _ HX3.out.lt).trans HX3.out)
          have HB4 := Lib.hid (Below.next HB3.out hb4)
          have HREP := Lib.hid hrep
          generalize (Prims.does n l).2 = z at *
          clear hb4 hrep
          obtain ⟨q0, q1, q2, q3, q4⟩ := HX4.out.cells
          obtain ⟨z0, z1, z2, z3, z4⟩ := HX4.out.free
          have hlt := HX4.out.lt
          obtain ⟨r0, r1, r2, r3, r4⟩ := (HX4.out.set (.int .i64 k) (.int .i64 n') (.int .i64 d) (.string s) (.slice o' len' cap')).cells
          go_wp2_with fail
          refine bodyPost_ret (v := .tuple #[.agg #[.int .i64 k, .int .i64 n', .int .i64 d, .string s, .slice o' len' cap'], .int .i64 z, .bool true]) (by simp [results, Tryz.results12, go_sem, r0, r1, r2, r3, r4, hlt]) rfl ⟨k, n', d, s, o', len', cap', rfl, ?_, ?_⟩
          · have h1 : Below w.heap.size w4 ((set5 w4 w.heap.size (.int .i64 k) (.int .i64 n') (.int .i64 d) (.string s) (.slice o' len' cap')).alloc (.cells #[.int .i64 k, .int .i64 n', .int .i64 d, .string s, .slice o' len' cap'] 26)) := (set5_below w4 w.heap.size w.heap.size _ _ _ _ _ (Nat.le_refl _)).alloc (by simp; omega) _
            exact HREP.out.kept h1
          · exact (HB4.out.trans (set5_below w4 w.heap.size w.heap.size _ _ _ _ _ (Nat.le_refl _))).alloc (by simp; omega) _
end Go.Proofs.YtnpiekniignfcaaGreatDoor
