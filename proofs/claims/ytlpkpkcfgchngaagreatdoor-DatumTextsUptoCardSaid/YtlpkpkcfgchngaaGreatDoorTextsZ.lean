/-
  The walk of DatumTexts.
-/
import Derived.Test.YtlpkpkcfgchngaaGreatDoorRWrite
import Derived.BigRegion
namespace Go.Proofs.YtlpkpkcfgchngaaGreatDoor
open Go.RowKit

set_option maxHeartbeats 4000000 in
set_option maxRecDepth 100000 in
theorem datumTexts_walk (x : Dat) (v : Value) (w : World) (hv : RepD w w.heap.size x v) (hE : Env w) (hlx : (Dat.text x false).length ≤ 140737488355328) :
    Calls Tryz.prog 4 #[v] w fun e w' => e = .returned (.bool true) ∧ Below w.heap.size w w' := by
  obtain ⟨k, n, d, s, o, len, cap, rfl⟩ := agg_of hv
  have HV := Lib.hid hv
  have HE := Lib.hid hE
  have HLX := Lib.hid hlx
  clear hv hE hlx
  have HU := Lib.hid (Uno.refl w #[.int .i64 k, .int .i64 n, .int .i64 d, .string s, .slice o len cap] 24)
  go_enter Tryz.func4, Tryz.ntmps4
  go_wp2_with fail
  refine (awake2_any _ (env_kept HE.out HU.out.below)).mono ?_
  rintro e' w1 ⟨rfl, hb1⟩
  have HU1 := Lib.hid (HU.out.next hb1)
  have hs1 := HU1.out.size
  clear hb1 HU
  have p0 := HU1.out.cell 0 (v := .int .i64 k) rfl
  have p1 := HU1.out.cell 1 (v := .int .i64 n) rfl
  have p2 := HU1.out.cell 2 (v := .int .i64 d) rfl
  have p3 := HU1.out.cell 3 (v := .string s) rfl
  have p4 := HU1.out.cell 4 (v := .slice o len cap) rfl
  obtain ⟨ya, hya⟩ : ∃ y, Dat.all x = y := ⟨_, rfl⟩
  have HYA := Lib.hid hya
  obtain ⟨r, hr⟩ : ∃ r, (if Dat.right x 0 = true then Dat.items x else none) = r := ⟨_, rfl⟩
  have HR := Lib.hid hr
  clear hya hr
  by_cases ha : ya ≤ 2000
  · go_wp2_with fail
    refine (lfew_to _ _ 2000 w.heap.size _ true (by rw [HYA.out]; exact decide_eq_true (by omega)) (HV.out.kept HU1.out.below) (by omega) (by omega) (by omega)).mono ?_
    rintro e' w2 ⟨rfl, hb2⟩
    have HU2 := Lib.hid (HU1.out.next hb2)
    have hs2 := HU2.out.size
    clear hb2 HU1 p0 p1 p2 p3 p4 hs1
    have p0 := HU2.out.cell 0 (v := .int .i64 k) rfl
    have p1 := HU2.out.cell 1 (v := .int .i64 n) rfl
    have p2 := HU2.out.cell 2 (v := .int .i64 d) rfl
    have p3 := HU2.out.cell 3 (v := .string s) rfl
    have p4 := HU2.out.cell 4 (v := .slice o len cap) rfl
    go_wp2_with fail
    have h0 := items_any x _ w.heap.size w2 (HV.out.kept HU2.out.below) (by omega)
    rw [HR.out] at h0
    refine h0.mono ?_
    clear h0
    rintro e' w3 ⟨v1, L, rfl, hL, ⟨o1, len1, cap1, rfl, hl1, hcap1, hmax1, hc1⟩, hb3⟩
    have HC1 := Lib.hid hc1
    have HL := Lib.hid hL
    have HL1 := Lib.hid hl1
    have HU3 := Lib.hid (HU2.out.next hb3)
    have hs3 := HU3.out.size
    clear hb3 HU2 p0 p1 p2 p3 p4 hs2 hc1 hL hl1
    have p0 := HU3.out.cell 0 (v := .int .i64 k) rfl
    have p1 := HU3.out.cell 1 (v := .int .i64 n) rfl
    have p2 := HU3.out.cell 2 (v := .int .i64 d) rfl
    have p3 := HU3.out.cell 3 (v := .string s) rfl
    have p4 := HU3.out.cell 4 (v := .slice o len cap) rfl
    go_wp2_with fail
    have h0 := ritems_any x _ w.heap.size w3 (HV.out.kept HU3.out.below) (by omega)
    rw [HR.out] at h0
    refine h0.mono ?_
    clear h0
    rintro e' w4 ⟨v2, L2, rfl, hL2, ⟨o2, len2, cap2, rfl, hl2, hcap2, hmax2, hc2⟩, hb4⟩
    obtain rfl : L2 = L := by rw [hL2, HL.out]
    obtain rfl : len2 = len1 := by rw [hl2, HL1.out]
    have HC2 := Lib.hid hc2
    have HU4 := Lib.hid (HU3.out.next hb4)
    have HB4 := Lib.hid hb4
    have hs4 := HU4.out.size
    have hs34 := hb4.size
    clear hb4 p0 p1 p2 p3 p4 hs3 hc2 hl2 hL2
    generalize hok : r.isSome = ok
    have HBase := Lib.hid (Below.refl w4.heap.size w4)
    have fin : ∀ wr, Below w4.heap.size w4 wr → Uno w #[.int .i64 k, .int .i64 n, .int .i64 d, .string s, .slice o len cap] 24 wr := fun wr h => HU4.out.next h
    have HFN := Lib.hid fin
    clear fin hok
    cases ok
    all_goals
      go_wp2_with fail
      go_loopg [8] len2 (fun g i wr => ∃ j : Nat, g = len2 - j ∧ j ≤ len2 ∧ i = .int .i64 j ∧ Below w4.heap.size w4 wr)
      case atStart => exact ⟨0, rfl, by omega, rfl, HBase.out⟩
      case round =>
        obtain ⟨j, rfl, hj, rfl, hb⟩ := hrel
        have hsz := hb.size
        have HB := Lib.hid hb
        clear hb
        by_cases hjl : j < len2
        · obtain ⟨y, hy⟩ : ∃ y, L2[j]? = some y := ⟨_, List.getElem?_eq_getElem (by rw [← HL1.out]; exact hjl)⟩
          obtain ⟨b1, off1, k1, n1, d1, s1, l1, oo1, ln1, cp1, ho1, hx1, e0, e1, e2, e3, e4, er⟩ := part_at2 HC1.out (Below.next HB4.out HB.out) hy
          obtain ⟨b2, off2, k2, n2, d2, s2, l2, oo2, ln2, cp2, ho2, hx2, f0, f1, f2, f3, f4, fr⟩ := part_at2 HC2.out HB.out hy
          subst ho1 ho2
          have ER := Lib.hid er
          have FR := Lib.hid fr
          have HX1 := Lib.hid hx1
          have HX2 := Lib.hid hx2
          have hl1 := cell_lt e0
          have hl2 := cell_lt f0
          have HD := Lib.hid ((Below.refl wr.heap.size wr).drew)
          clear hy er fr hx1 hx2
          go_wp2_with fail
          refine wp_region_quiet_class (Below wr.heap.size wr) 9 (by kernel_rfl) (by kernel_rfl) HD.out ?_
          intro T _ W HW HW2
          have g0 : ∀ t, (W t).cell? _ = _ := fun t => ((HW t).cell (p := ⟨b1, off1 + j * 5, none⟩) hl1).trans e0
          have g1 : ∀ t, (W t).cell? _ = _ := fun t => ((HW t).cell (p := ⟨b1, off1 + j * 5 + 1, none⟩) hl1).trans e1
          have g2 : ∀ t, (W t).cell? _ = _ := fun t => ((HW t).cell (p := ⟨b1, off1 + j * 5 + 2, none⟩) hl1).trans e2
          have g3 : ∀ t, (W t).cell? _ = _ := fun t => ((HW t).cell (p := ⟨b1, off1 + j * 5 + 3, none⟩) hl1).trans e3
          have g4 : ∀ t, (W t).cell? _ = _ := fun t => ((HW t).cell (p := ⟨b1, off1 + j * 5 + 4, none⟩) hl1).trans e4
          have j0 : ∀ t, (W t).cell? _ = _ := fun t => ((HW t).cell (p := ⟨b2, off2 + j * 5, none⟩) hl2).trans f0
          have j1 : ∀ t, (W t).cell? _ = _ := fun t => ((HW t).cell (p := ⟨b2, off2 + j * 5 + 1, none⟩) hl2).trans f1
          have j2 : ∀ t, (W t).cell? _ = _ := fun t => ((HW t).cell (p := ⟨b2, off2 + j * 5 + 2, none⟩) hl2).trans f2
          have j3 : ∀ t, (W t).cell? _ = _ := fun t => ((HW t).cell (p := ⟨b2, off2 + j * 5 + 3, none⟩) hl2).trans f3
          have j4 : ∀ t, (W t).cell? _ = _ := fun t => ((HW t).cell (p := ⟨b2, off2 + j * 5 + 4, none⟩) hl2).trans f4
          have hC : ∀ t, Calls Tryz.prog 16 #[.agg #[.int .i64 k1, .int .i64 n1, .int .i64 d1, .string s1, .slice oo1 ln1 cp1], .agg #[.int .i64 k2, .int .i64 n2, .int .i64 d2, .string s2, .slice oo2 ln2 cp2]] (W t) fun e w' => e = .returned (.bool true) ∧ ∃ t', w' = W t' := fun t =>
            (ralike_to y y _ _ w4.heap.size (W t) true (Dat.alike_self y) (by rw [HX1.out]; exact (ER.out.wider hs34).kept (Below.mono (HW t) hsz)) (by rw [HX2.out]; exact FR.out.kept (Below.mono (HW t) hsz)) (Nat.le_trans hsz (HW t).size)).mono fun e w' h => ⟨h.1, HW2 _ (Below.next (HW t) h.2)⟩
          have HC := Lib.hid hC
          clear hC
          have HWH := Lib.hid HW
          clear HW HW2
          simp only [List.take_succ_cons, List.take_zero, List.drop_succ_cons, List.drop_zero]
          repeat (go_big_quiet_step (first | (go_at_call 16; exact HC.out _) | fail))
          refine wpQuiet_nil ?_
          intro t
          go_wp2_with fail
          go_roundg (len2 - (j + 1))
          case measure => omega
          case rel => exact ⟨j + 1, rfl, by omega, by go_num, Below.next HB.out (HWH.out t)⟩
        · have HUr := Lib.hid (HFN.out _ HB.out)
          have HD := Lib.hid (HUr.out.drew)
          have HLX2 := Lib.hid (fun _ : Dat.right x 0 = true => HLX.out)
          go_wp2_with fail
          refine wp_region_quiet_class (Uno w #[.int .i64 k, .int .i64 n, .int .i64 d, .string s, .slice o len cap] 24) 5 (by kernel_rfl) (by kernel_rfl) HD.out ?_
          intro T _ W HW HW2
          have HWH := Lib.hid HW
          have hB : ∀ t, Below w.heap.size w (W t) := fun t => (HW t).below
          have hszz : ∀ t, w.heap.size ≤ (W t).heap.size := fun t => (hB t).size
          have hcl : ∀ t w', Below (W t).heap.size (W t) w' → ∃ t', w' = W t' := fun t w' hb => HW2 _ ((HW t).next hb)
          have e0 := fun t => (HW t).cell 0 (v := .int .i64 k) rfl
          have e1 := fun t => (HW t).cell 1 (v := .int .i64 n) rfl
          have e2 := fun t => (HW t).cell 2 (v := .int .i64 d) rfl
          have e3 := fun t => (HW t).cell 3 (v := .string s) rfl
          have e4 := fun t => (HW t).cell 4 (v := .slice o len cap) rfl
          have c1 : ∀ t, Calls Tryz.prog 17 #[.agg #[.int .i64 k, .int .i64 n, .int .i64 d, .string s, .slice o len cap]] (W t) fun e w' => e = .returned (.string ⟨(Dat.full x).toArray⟩) ∧ ∃ t', w' = W t' := fun t =>
            (dtext_any x _ w.heap.size (W t) (HV.out.kept (hB t)) (hszz t) (env_kept HE.out (hB t)) HLX2.out).mono fun e w' h => ⟨h.1, hcl t w' h.2⟩
          have c2 : ∀ t, Calls Tryz.prog 18 #[.agg #[.int .i64 k, .int .i64 n, .int .i64 d, .string s, .slice o len cap]] (W t) fun e w' => e = .returned (.string ⟨(Dat.full x).toArray⟩) ∧ ∃ t', w' = W t' := fun t =>
            (rText_any x _ w.heap.size (W t) (HV.out.kept (hB t)) (hszz t) HLX2.out).mono fun e w' h => ⟨h.1, hcl t w' h.2⟩
          generalize (⟨(Dat.full x).toArray⟩ : ByteArray) = ta at c1 c2
          have H1 := Lib.hid c1
          have H2 := Lib.hid c2
          clear HW HW2 hB hszz hcl c1 c2
          simp only [List.take_succ_cons, List.take_zero, List.drop_succ_cons, List.drop_zero]
          repeat (go_big_quiet_step (first | (go_at_call 17; exact H1.out _) | (go_at_call 18; exact H2.out _) | fail))
          refine wpQuiet_nil ?_
          intro t
          go_wp2
          go_ret
          exact ⟨rfl, (HWH.out t).below⟩
  · go_wp2_with fail
    refine (lfew_to _ _ 2000 w.heap.size _ false (by rw [HYA.out]; exact decide_eq_false (by omega)) (HV.out.kept HU1.out.below) (by omega) (by omega) (by omega)).mono ?_
    rintro e' w2 ⟨rfl, hb2⟩
    go_wp2_with fail
    go_ret
    exact ⟨rfl, (HU1.out.next hb2).below⟩
end Go.Proofs.YtlpkpkcfgchngaaGreatDoor
