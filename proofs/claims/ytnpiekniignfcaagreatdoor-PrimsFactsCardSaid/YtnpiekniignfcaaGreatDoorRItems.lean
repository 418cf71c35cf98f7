/-
  The contract of corbelref02.Items.
-/
import Derived.Test.YtnpiekniignfcaaGreatDoorRSize
import Derived.Test.YtnpiekniignfcaaGreatDoorSames
namespace Go.Proofs.YtnpiekniignfcaaGreatDoor
open Go.RowKit

theorem rRight_any (x : Dat) (v : Value) (B : Nat) (w : World) (hv : RepD w B x v) (hB : B ≤ w.heap.size) :
    Calls Tryz.prog 31 #[v] w fun e w' => e = .returned (.bool (Dat.right x 0)) ∧ Below w.heap.size w w' := rRight_to x v B w _ rfl hv hB

set_option maxHeartbeats 4000000 in
set_option maxRecDepth 100000 in
theorem ritems_any (x : Dat) (v : Value) (B : Nat) (w : World) (hv : RepD w B x v) (hB : B ≤ w.heap.size) :
    Calls Tryz.prog 62 #[v] w (ItemsPost (if Dat.right x 0 then Dat.items x else none) w) := by
  obtain ⟨k, n, d, s, o, len, cap, rfl⟩ := agg_of hv
  have HV := Lib.hid (hv.wider hB)
  have HK := Lib.hid (fun X => (Below.refl w.heap.size w).alloc (Nat.le_refl _) X)
  have C1 := Lib.hid (fun W (hb : Below w.heap.size w W) => rRight_any x _ w.heap.size W (HV.out.kept hb) hb.size)
  clear hv
  cases hr : Dat.right x 0 with
  | false =>
    rw [hr] at C1
    simp only [Bool.false_eq_true, if_false]
    clear hr
    go_enter Tryz.func62, Tryz.ntmps62
    go_wp2_with fail
    refine (C1.out _ (HK.out _)).mono ?_
    rintro e' w1 ⟨rfl, hb1⟩
    go_wp2
    go_ret2
    exact ⟨_, [], rfl, rfl, ⟨none, 0, 0, rfl, rfl, by omega, by omega, rfl, rfl⟩, one_below hb1⟩
  | true =>
    rw [hr] at C1
    have HR := Lib.hid hr
    simp only [if_true]
    clear hr
    go_enter Tryz.func62, Tryz.ntmps62
    go_wp2_with fail
    refine (C1.out _ (HK.out _)).mono ?_
    rintro e' w1 ⟨rfl, hb1⟩
    have hz := one_size hb1
    have z0 : w.heap.size < w1.heap.size := by omega
    have hbox : Box5 w1 w.heap.size 26 (.int .i64 k) (.int .i64 n) (.int .i64 d) (.string s) (.slice o len cap) := (hb1.block _ (by simp)).trans (Box5.new w _ _ _ _ _ _)
    have hI : ItemsI w.heap.size w x (Dat.all x) (.slice none 0 0) w1 := by
      obtain ⟨k', n', d', s', l'⟩ := x
      obtain ⟨sl, hv, _⟩ := HV.out.open
      simp only [Value.agg.injEq, Array.mk.injEq, List.cons.injEq, and_true, Value.int.injEq, true_and, Value.string.injEq] at hv
      obtain ⟨rfl, rfl, rfl, rfl, _⟩ := hv
      exact ⟨k, n, d, s, l', o, len, cap, [], [], hbox, HV.out.kept (one_below hb1), HR.out, Nat.le_refl _, World.ownsRow_nil _ _ _ _, rfl, by simp, one_below hb1⟩
    have HI := Lib.hid hI
    clear hb1 hbox hI
    go_wp2_with fail
    go_loopg [4] (Dat.all x) (fun g t wr => ItemsI w.heap.size w x g t wr)
    case atStart => exact HI.out
    case round =>
      obtain ⟨k1, n1, d1, s1, l1, o1, len1, cap1, done, xs, hbox, hrep, hri, hle, hown, hcs, hit, hb⟩ := hrel
      obtain ⟨q0, q1, q2, q3, q4⟩ := hbox.cells
      obtain ⟨z0, z1, z2, z3, z4⟩ := hbox.free
      have hlt1 := hbox.lt
      have hsz := hb.size
      have HX := Lib.hid hbox
      have HRP := Lib.hid hrep
      have HRI := Lib.hid hri
      have HO := Lib.hid hown
      have HC := Lib.hid hcs
      have HT := Lib.hid hit
      have HB := Lib.hid hb
      clear hbox hrep hri hown hcs hit hb
      by_cases k6 : k1 = 6
      · subst k6
        obtain ⟨hdp, a', c', rfl, rfl, rfl, rfl, ha', hc'⟩ := right_pair_at HRI.out
        have HC' := Lib.hid hc'
        clear ha' hc'
        have hall : Dat.all (.mk 6 0 0 ⟨#[]⟩ [a', c']) = 1 + (Dat.all a' + (Dat.all c' + 0)) := rfl
        obtain ⟨sl, hv, _, _, _, _, hs⟩ := HRP.out.open
        simp only [Value.agg.injEq, Array.mk.injEq, List.cons.injEq, and_true, true_and] at hv
        obtain rfl := hv
        have hl2 : len1 = 2 := by obtain ⟨_, _, _, he, h2, _⟩ := hs; simp only [Value.slice.injEq] at he; rw [he.2.1, h2]; rfl
        subst hl2
        have hcp : 2 ≤ cap1 ∧ cap1 ≤ 9223372036854775807 := by obtain ⟨_, _, _, he, h2, h3, h4, _⟩ := hs; simp only [Value.slice.injEq] at he; omega
        have HS := Lib.hid hs
        obtain ⟨bb, off, ak', an', ad', ast', al', ao', alen', acap', ho, hae', e0, e1, e2, e3, e4, er⟩ := part_0 hs (Below.refl _ wr)
        subst ho
        obtain ⟨bb', off', ck, cn, cd, cs, cl, co, clen, ccap, hoo, hce, f0, f1, f2, f3, f4, fr⟩ := part_1 hs (Below.refl _ wr)
        simp only [Option.some.injEq, Addr.mk.injEq, and_true] at hoo
        obtain ⟨rfl, rfl⟩ := hoo
        have ER := Lib.hid er
        have HAE := Lib.hid hae'
        have FR := Lib.hid fr
        have HCE := Lib.hid hce
        clear hs er hae' fr hce
        obtain ⟨i0, hi, hz0, hz1, hz2⟩ := info_parts info_datum
        go_wp2_with (at_builtin; refine wpList_append_own _ rfl _ _ 22 rfl (w.heap.size + 1) 26 i0 (.agg #[.int .i64 0, .int .i64 0, .int .i64 0, .string ⟨#[]⟩, .slice none 0 0]) 5 64 Tryz.underlying22 hi hz0 hz1 hz2 rfl (by decide) u4 done.length xs rfl (HO.out.alloc _) ⟨wr.heap.size, 0, none⟩ 1 1 [.int .i64 ak', .int .i64 an', .int .i64 ad', .string ast', .slice ao' alen' acap'] rfl rfl ?c1 ?c2 ?c3 ?c4 ?c5 ?_)
        case c1 => exact new_five _ _ _ _ _ _ _
        case c2 => intro u hu; simp only [List.mem_cons, List.not_mem_nil, or_false] at hu; rcases hu with rfl | rfl | rfl | rfl | rfl <;> rfl
        case c3 => unfold maxLen; omega
        case c4 => omega
        case c5 => simp; omega
        intro v' w2 hown' hgrow _
        have hrow : ∀ g, u4.ownBlock = some g → w.heap.size + 1 ≤ g := fun g hg => (HO.out.lt g hg).1
        have hb2 : Below w.heap.size wr w2 := ((Below.refl w.heap.size wr).alloc hsz _).grown hgrow (by simp; omega) (fun g hg => by have := hrow g hg; omega)
        have hbox2 : Box5 w2 w.heap.size 26 (.int .i64 6) (.int .i64 0) (.int .i64 0) (.string ⟨#[]⟩) (.slice (some ⟨bb, off, none⟩) 2 cap1) :=
          (hgrow.block _ (by simp; omega) (fun e => by have := hrow _ e.symm; omega)).trans (HX.out.alloc _)
        obtain ⟨r0, r1, r2, r3, r4⟩ := hbox2.cells
        obtain ⟨y0, y1, y2, y3, y4⟩ := hbox2.free
        have hg : ∀ o, w2.cell? ⟨bb, o, none⟩ = wr.cell? ⟨bb, o, none⟩ := fun o => hb2.cell (p := ⟨bb, o, none⟩) (by
          obtain ⟨_, _, _, he, _, _, _, h8⟩ := HS.out
          simp only [Value.slice.injEq] at he
          rw [← he.1] at h8
          exact (h8.1 (by simp)).2)
        have g0 := (hg _).trans f0
        have g1 := (hg _).trans f1
        have g2 := (hg _).trans f2
        have g3 := (hg _).trans f3
        have g4 := (hg _).trans f4
        have HX2 := Lib.hid hbox2
        have HB2 := Lib.hid hb2
        have HO2 := Lib.hid hown'
        have hs2 := hb2.size
        clear hgrow hrow hb2 hbox2 hg e0 e1 e2 e3 e4 f0 f1 f2 f3 f4 hown' q0 q1 q2 q3 q4
        go_wp2_with fail
        go_roundg (Dat.all c')
        case measure => omega
        case rel =>
          refine ⟨ck, cn, cd, cs, cl, co, clen, ccap, done ++ [a'], xs ++ [.int .i64 ak', .int .i64 an', .int .i64 ad', .string ast', .slice ao' alen' acap'], HX2.out.set _ _ _ _ _, ?_, ?_, ?_, ?_, ?_, ?_, ?_⟩
          · exact (FR.out.kept HB2.out).kept (set5_below _ _ _ _ _ _ _ _ (Nat.le_refl _))
          · rw [← HCE.out]; simpa using HC'.out
          · rw [← HCE.out]; exact Nat.le_refl _
          · have hne : v'.ownBlock = none ∨ v'.ownBlock ≠ some w.heap.size := by
              cases hv : v'.ownBlock with
              | none => exact .inl rfl
              | some g => right; intro e; have := (HO2.out.lt g hv).1; simp at e; omega
            have := HO2.out.kept (set5_grown w2 w.heap.size (.int .i64 ck) (.int .i64 cn) (.int .i64 cd) (.string cs) (.slice co clen ccap)) hne
            simpa using this
          · refine CellsD.snoc ?_ (HC.out.mono fun y v h => (h.kept HB2.out).kept (set5_below _ _ _ _ _ _ _ _ (Nat.le_refl _)))
            rw [HAE.out]
            exact (ER.out.kept HB2.out).kept (set5_below _ _ _ _ _ _ _ _ (Nat.le_refl _))
          · rw [HT.out, items_pair, ← HCE.out, Option.map_map]
            congr 1
            funext z
            simp
          · exact (HB.out.trans HB2.out).trans (set5_below _ _ _ _ _ _ _ _ (Nat.le_refl _))
      by_cases k4 : k1 = 4
      · subst k4
        have hl0 := right_null HRI.out
        have HN := Lib.hid (show x.items = some done by rw [HT.out, items_other 4 _ _ _ _ (by omega) (fun _ => hl0)]; simp)
        clear hl0
        go_wp2_with fail
        go_ret2
        refine ⟨u4, done, by rw [HN.out]; rfl, by rw [HN.out]; rfl, repS_of_row HO.out HC.out hsz, HB.out⟩
      · have k6' : (k1 == 6) = false := by simpa using k6
        have k4' : (k1 != 4) = true := by simpa using k4
        have HN := Lib.hid (show x.items = none by rw [HT.out, items_other k1 _ _ _ _ k6 (fun h => absurd h k4), if_neg k4]; rfl)
        go_wp2_with fail
        go_ret2
        exact ⟨_, [], by rw [HN.out]; rfl, by rw [HN.out]; rfl, ⟨none, 0, 0, rfl, rfl, by omega, by omega, rfl, rfl⟩, HB.out⟩
end Go.Proofs.YtnpiekniignfcaaGreatDoor
