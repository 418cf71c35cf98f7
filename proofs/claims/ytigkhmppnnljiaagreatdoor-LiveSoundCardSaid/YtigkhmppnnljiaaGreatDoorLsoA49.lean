/-
  What the proofs lean on: LSoundW.
-/
import Derived.BigQuiet
import Derived.Test.YtigkhmppnnljiaaGreatDoorLsoA17
import Derived.Test.YtigkhmppnnljiaaGreatDoorLsoA30
import Derived.Test.YtigkhmppnnljiaaGreatDoorLsoA32
import Derived.Test.YtigkhmppnnljiaaGreatDoorLsoA33
import Derived.Test.YtigkhmppnnljiaaGreatDoorLsoA34
import Derived.Test.YtigkhmppnnljiaaGreatDoorLsoA41
import Derived.Test.YtigkhmppnnljiaaGreatDoorLsoA48
set_option maxRecDepth 100000
set_option maxHeartbeats 16000000
namespace Go.Proofs.YtigkhmppnnljiaaGreatDoor
section
open Go Go.RowKit Mdl
theorem unit_sound {m : Mdl} (h : m.okB = true) (hu : (m.unit Mk.lkL).okB = true) : Live.soundB (m.unit Mk.lkL) = true := by
 rw [Live.soundB, hu, Bool.true_and, List.all_eq_true]
 intro p hp
 obtain ⟨i, hi⟩ := List.getElem?_of_mem hp
 obtain ⟨c, _, ha, _, _, hf, _⟩ := (unit_shape h hu).2 i p hi
 unfold Live.procSound
 cases hl : (Live.begin' p.code p.regs.toNat).getLast? with
 | none => rfl
 | some r =>
  dsimp only
  have hm : r ∈ Live.begin' p.code p.regs.toNat := List.mem_of_getLast? hl
  unfold Live.begin' at hm
  obtain ⟨_, j, hj, hn⟩ := Live.mem_live.1 hm
  rw [List.mem_singleton.1 hj] at hn
  have hg := hf.need hn
  rw [ha]
  exact decide_eq_true hg.2
theorem liveSound_walk (u : Unt) (v : Value) (m : Mdl) (v2 : Value) (w : World) (hv : UntR w w.heap.size u v) (hm : MdlR w w.heap.size m v2) (hs : m.slim) :
  Calls Tryz.prog 8 #[v, v2] w fun e w' => e = .returned (.bool true) ∧ Below w.heap.size w w' := by
 obtain ⟨B, hBe⟩ : ∃ B, w.heap.size = B := ⟨_, rfl⟩
 rw [hBe] at hv hm
 have hB : B ≤ w.heap.size := by omega
 have HV := Lib.hid hv
 have HM := Lib.hid hm
 have HSL := Lib.hid hs
 obtain ⟨cv, pv, rfl, hc, hp⟩ := hv
 obtain ⟨op', np, cp', rfl, hnp, hcapp, hmaxp⟩ := hp.slice
 obtain ⟨ok, nk, ck, rfl, hcx⟩ := hc
 obtain ⟨cc, pp, b0, b1, b2, b3, rfl, hcon, hcod, hbody⟩ := hm
 obtain ⟨oc, lc, kc, rfl⟩ : ∃ o l c, cc = .slice o l c := by obtain ⟨o, l, c, h, _⟩ := hcon; exact ⟨o, l, c, h⟩
 obtain ⟨op, lp, kp, rfl⟩ := hcod.form
 obtain ⟨q, r', u', q', r'', u'', rfl, rfl, rfl, rfl⟩ := trm_form hbody
 have HCOD := Lib.hid hcod
 have HBODY := Lib.hid hbody
 have HLP := Lib.hid hcod.lens.1
 have hkp : lp ≤ kp ∧ kp ≤ 9223372036854775807 := hcod.lens.2
 clear hcon hcod hbody hBe hs hcx hp hnp
 obtain ⟨W1, hW1⟩ : ∃ W1, (w.alloc (.cells #[.slice ok nk ck, .slice op' np cp'] 25)).alloc (.cells #[.slice oc lc kc, .slice op lp kp, .int .i64 m.body.op, .int .i64 m.body.n, .slice q r' u', .slice q' r'' u''] 43) = W1 := ⟨_, rfl⟩
 have HB1 := Lib.hid (show Below w.heap.size w W1 from by rw [← hW1]; exact (Below.one w _).trans ((Below.one _ _).mono (by simp)))
 have HU1 := Lib.hid (show BoxL W1 w.heap.size 25 [.slice ok nk ck, .slice op' np cp'] from by rw [← hW1]; exact (BoxL.new rfl _ _).alloc _)
 have HX1 := Lib.hid (show BoxL W1 (w.heap.size + 1) 43 [.slice oc lc kc, .slice op lp kp, .int .i64 m.body.op, .int .i64 m.body.n, .slice q r' u', .slice q' r'' u''] from by rw [← hW1]; exact BoxL.new (by simp) _ _)
 have HW1 := Lib.hid hW1
 have HA := Lib.hid (awake16_any W1)
 clear hW1
 go_enter Tryz.func8, Tryz.ntmps8
 go_upto_region 1 with fail
 rw [HW1.out]
 go_wp2_with fail
 with_reducible refine HA.out.mono ?_
 rintro e w2 ⟨rfl, hb2⟩
 have HB2 := Lib.hid (HB1.out.trans (hb2.mono HB1.out.size))
 have HU2 := Lib.hid (HU1.out.keep hb2)
 have HX2 := Lib.hid (HX1.out.keep hb2)
 clear hb2 HA HW1
 have a0 := HU2.out.cell 0 rfl
 have a1 := HU2.out.cell 1 rfl
 have al := HU2.out.lt
 obtain ⟨q1, hq1⟩ : ∃ q1, Unt.fewB u 150 150 = q1 := ⟨_, rfl⟩
 have HQ1 := Lib.hid hq1
 have HF1 := Lib.hid (few16_any u _ 150 B w2 (HV.out.kept (HB2.out.mono hB)) (by have := HB2.out.size; omega) (by omega) (by omega) q1 hq1)
 clear hq1
 cases q1 with
 | false =>
  go_wp2_with fail
  with_reducible refine HF1.out.mono ?_
  rintro e w3 ⟨rfl, hb3⟩
  have HB3 := Lib.hid (HB2.out.trans (hb3.mono HB2.out.size))
  clear hb3 HF1 a0 a1 al
  go_wp2_with fail
  go_ret
  exact ⟨rfl, HB3.out⟩
 | true =>
 go_wp2_with fail
 with_reducible refine HF1.out.mono ?_
 rintro e w3 ⟨rfl, hb3⟩
 have HB3 := Lib.hid (HB2.out.trans (hb3.mono HB2.out.size))
 have HU3 := Lib.hid (HU2.out.keep hb3)
 have HX3 := Lib.hid (HX2.out.keep hb3)
 clear hb3 HF1 a0 a1 al
 have x1 := HX3.out.cell 1 rfl
 have x2 := HX3.out.cell 2 rfl
 have x3 := HX3.out.cell 3 rfl
 have x4 := HX3.out.cell 4 rfl
 have x5 := HX3.out.cell 5 rfl
 have xl := HX3.out.lt
 obtain ⟨q2, hq2⟩ : ∃ q2, decide ((m.body.all : Int) ≤ 200) = q2 := ⟨_, rfl⟩
 have HF2 := tFew_any m.body _ _ _ _ 200 B w3 (TrmR.kept (HB3.out.mono hB) _ _ HBODY.out) (by have := HB3.out.size; omega) (by omega) (by omega)
 rw [hq2] at HF2
 have HF2 := Lib.hid HF2
 clear hq2
 cases q2 with
 | false =>
  go_wp2_with fail
  with_reducible refine HF2.out.mono ?_
  rintro e w4 ⟨rfl, hb4⟩
  have HB4 := Lib.hid (HB3.out.trans (hb4.mono HB3.out.size))
  clear hb4 HF2 x1 x2 x3 x4 x5 xl
  go_wp2_with fail
  go_ret
  exact ⟨rfl, HB4.out⟩
 | true =>
 go_wp2_with fail
 with_reducible refine HF2.out.mono ?_
 rintro e w4 ⟨rfl, hb4⟩
 have HB4 := Lib.hid (HB3.out.trans (hb4.mono HB3.out.size))
 have HU4 := Lib.hid (HU3.out.keep hb4)
 have HX4 := Lib.hid (HX3.out.keep hb4)
 clear hb4 HF2 x1 x2 x3 x4 x5 xl
 have x1 := HX4.out.cell 1 rfl
 have xl := HX4.out.lt
 by_cases hl20 : 20 < lp
 ·have g20 : decide ((20 : Int) < (lp : Int)) = true := decide_eq_true (by omega)
  go_wp2_with fail
  go_ret
  exact ⟨rfl, HB4.out⟩
 ·have g20 : decide ((20 : Int) < (lp : Int)) = false := decide_eq_false (by omega)
  go_wp2_with fail
  go_loopg [6] lp (fun g i wr => ∃ j : Nat, g = lp - j ∧ j ≤ lp ∧ i = .int .i64 j ∧ Hid (Below w4.heap.size w4 wr))
  case atStart => exact ⟨0, rfl, by omega, rfl, Lib.hid (Below.refl _ _)⟩
  case round =>
   obtain ⟨j, rfl, hj, rfl, HW⟩ := hrel
   clear x1 xl
   have HBR := Lib.hid (HB4.out.trans (HW.out.mono HB4.out.size))
   have HXR := Lib.hid (HX4.out.keep HW.out)
   have HUR := Lib.hid (HU4.out.keep HW.out)
   have x1 := HXR.out.cell 1 rfl
   have xl := HXR.out.lt
   by_cases hjl : j < lp
   ·obtain ⟨c, hc⟩ : ∃ c, m.codes[j]? = some c := ⟨_, List.getElem?_eq_getElem (by rw [← HLP.out]; exact hjl)⟩
    obtain ⟨tb, toff, cs, hto, htb, hcl, hcell, hcr⟩ := HCOD.out.at (HBR.out.mono hB) hc
    subst hto
    obtain ⟨ov', lv', cv', q1, r1, u1, q2, r2, u2, rfl, hsv, hst⟩ := codR_shape hcr
    have e2 := hcell 2 _ rfl
    have e3 := hcell 3 _ rfl
    have e4 := hcell 4 _ rfl
    have e5 := hcell 5 _ rfl
    have hel := cell_lt e2
    obtain ⟨q3, hq3⟩ : ∃ q3, decide ((c.body.all : Int) ≤ 100) = q3 := ⟨_, rfl⟩
    have HF3 := tFew_any c.body _ _ _ _ 100 B wr (TrmR.kept (HBR.out.mono hB) _ _ hst) (by have := HBR.out.size; omega) (by omega) (by omega)
    rw [hq3] at HF3
    have HF3 := Lib.hid HF3
    clear hc hcell hcl hcr hsv hst hq3
    go_wp2_with fail
    with_reducible refine HF3.out.mono ?_
    rintro e w6 ⟨rfl, hb6⟩
    have HB6 := Lib.hid (Below.next HW.out hb6)
    have HB7 := Lib.hid (HBR.out.trans (hb6.mono HBR.out.size))
    clear hb6 HF3 x1 xl e2 e3 e4 e5 hel
    cases q3 with
    | false =>
     go_wp2_with fail
     go_ret
     exact ⟨rfl, HB7.out⟩
    | true =>
     go_wp2_with fail
     go_roundg (lp - (j + 1))
     case measure => omega
     case rel => exact ⟨j + 1, rfl, by omega, by go_num, HB6⟩
   ·obtain rfl : j = lp := by omega
    have x0 := HXR.out.cell 0 rfl
    have x2 := HXR.out.cell 2 rfl
    have x3 := HXR.out.cell 3 rfl
    have x4 := HXR.out.cell 4 rfl
    have x5 := HXR.out.cell 5 rfl
    have HZ := Lib.hid (zmake_any m _ B wr (HM.out.kept (HBR.out.mono hB)) (by have := HBR.out.size; omega) HSL.out (by rw [← HLP.out]; omega))
    go_wp2_with fail
    with_reducible refine HZ.out.mono ?_
    rintro e w6 ⟨cv6, pv6, rfl, hu6, hb6⟩
    have HB6 := Lib.hid (HBR.out.trans (hb6.mono HBR.out.size))
    have HU6 := Lib.hid (HUR.out.keep hb6)
    have HUV := Lib.hid hu6
    obtain ⟨cv', pv', he, hcv, hpv⟩ := hu6
    simp only [Value.agg.injEq, Array.mk.injEq, List.cons.injEq, and_true] at he
    obtain ⟨rfl, rfl⟩ := he
    obtain ⟨o6, l6, c6, rfl, hx6⟩ := hcv
    clear hx6
    obtain ⟨o7, n7, c7, rfl⟩ := hpv.form
    clear hpv
    obtain ⟨W7, hW7⟩ : ∃ W7, w6.alloc (.cells #[.slice o6 l6 c6, .slice o7 n7 c7] 25) = W7 := ⟨_, rfl⟩
    have HB67 := Lib.hid (show Below w6.heap.size w6 W7 from by rw [← hW7]; exact Below.one w6 _)
    have HV7 := Lib.hid (show BoxL W7 w6.heap.size 25 [.slice o6 l6 c6, .slice o7 n7 c7] from by rw [← hW7]; exact BoxL.new rfl _ _)
    have HU7 := Lib.hid (HU6.out.keep HB67.out)
    have HB7 := Lib.hid (HB6.out.trans (HB67.out.mono HB6.out.size))
    have HR7 := Lib.hid (HUV.out.kept HB67.out |>.wider HB67.out.size)
    have HW7 := Lib.hid hW7
    clear hb6 HZ x0 x1 x2 x3 x4 x5 xl hW7 HUV HU6
    obtain ⟨E, hE⟩ : ∃ E, m.rErr = E := ⟨_, rfl⟩
    have HE := Lib.hid hE
    rw [hE]
    clear hE
    go_upto_region 10 with fail
    rw [HW7.out]
    have HD := Lib.hid ((Below.refl W7.heap.size W7).drew)
    obtain ⟨s, hs⟩ : ∃ s, Live.soundB u = s := ⟨_, rfl⟩
    have HS := Lib.hid hs
    have hss : (s == s) = true := by simp
    clear hs
    obtain ⟨q3, hq3⟩ : ∃ q3, Unt.fewB m.rU 300 300 = q3 := ⟨_, rfl⟩
    have HQ3 := Lib.hid hq3
    clear hq3
    have HSD := Lib.hid (show q3 = true → E = 0 → Live.soundB m.rU = true from fun _ he => by
     have h := HE.out
     rw [he, rErr] at h
     cases hok : (m.rokB && (m.unit Mk.lkL).okB) with
     | false => rw [hok] at h; cases h
     | true =>
      rw [rU, hok, if_pos rfl]
      rw [Bool.and_eq_true] at hok
      exact unit_sound (rok_ok hok.1).1 hok.2)
    have hE05 : E = 0 ∨ E = 5 := by
     rw [← HE.out, rErr]
     split
     ·exact .inl rfl
     ·exact .inr rfl
    rcases hE05 with rfl | rfl
    ·cases q3 with
     | false =>
      refine wp_region_quiet_all (Below W7.heap.size W7) (by kernel_rfl) (by kernel_rfl) HD.out ?_
      intro T0 _ WW HWW HWW2
      have hbW : ∀ t, Below B w (WW t) := fun t => (HB7.out.trans ((HWW t).mono HB7.out.size)).mono hB
      have hzW : ∀ t, W7.heap.size ≤ (WW t).heap.size := fun t => (HWW t).size
      have a0 : ∀ t, (WW t).cell? _ = _ := fun t => ((HWW t).cell (p := ⟨w.heap.size, 0, none⟩) HU7.out.lt).trans (HU7.out.cell 0 rfl)
      have a1 : ∀ t, (WW t).cell? _ = _ := fun t => ((HWW t).cell (p := ⟨w.heap.size, 1, none⟩) HU7.out.lt).trans (HU7.out.cell 1 rfl)
      have HS1 : Hid (∀ t, Calls Tryz.prog 23 #[.agg #[.slice ok nk ck, .slice op' np cp']] (WW t) fun e w' => e = .returned (.bool s) ∧ ∃ t', w' = WW t') := Lib.hid (fun t => calls_class HWW2 ((lsound_any u _ B (WW t) (HV.out.kept (hbW t)) (by have := hzW t; have := HB7.out.size; omega) (Live.short_of_few HQ1.out (by omega))).mono fun e w' h => ⟨by rw [h.1, HS.out], ((HWW t).trans (h.2.mono (HWW t).size))⟩))
      have HS2 : Hid (∀ t, Calls Tryz.prog 24 #[.agg #[.slice ok nk ck, .slice op' np cp']] (WW t) fun e w' => e = .returned (.bool s) ∧ ∃ t', w' = WW t') := Lib.hid (fun t => calls_class HWW2 ((sound16ref_any u _ B (WW t) (HV.out.kept (hbW t)) (by have := hzW t; have := HB7.out.size; omega) (Live.short_of_few HQ1.out (by omega))).mono fun e w' h => ⟨by rw [h.1, HS.out], ((HWW t).trans (h.2.mono (HWW t).size))⟩))
      have c0 : ∀ t, (WW t).cell? _ = _ := fun t => ((HWW t).cell (p := ⟨w6.heap.size, 0, none⟩) HV7.out.lt).trans (HV7.out.cell 0 rfl)
      have c1 : ∀ t, (WW t).cell? _ = _ := fun t => ((HWW t).cell (p := ⟨w6.heap.size, 1, none⟩) HV7.out.lt).trans (HV7.out.cell 1 rfl)
      have HS3 : Hid (∀ t, Calls Tryz.prog 21 #[.agg #[.slice o6 l6 c6, .slice o7 n7 c7], .int .i64 300] (WW t) fun e w' => e = .returned (.bool false) ∧ ∃ t', w' = WW t') := Lib.hid (fun t => calls_class HWW2 ((few16_any m.rU _ 300 W7.heap.size (WW t) (HR7.out.kept (HWW t)) (hzW t) (by omega) (by omega) false HQ3.out).mono fun e w' h => ⟨h.1, ((HWW t).trans (h.2.mono (HWW t).size))⟩))
      have HWH := Lib.hid HWW
      clear HWW HWW2 hbW hzW
      repeat (go_big_quiet_step (first | (go_at_call 23; with_reducible exact HS1.out _) | (go_at_call 24; exact HS2.out _) | (go_at_call 21; exact HS3.out _) | fail))
      refine wpQuiet_nil ?_
      intro t'
      have HBB := Lib.hid (HB7.out.trans ((HWH.out t').mono HB7.out.size))
      clear HWH a0 a1 HS1 HS2 c0 c1 HS3
      go_wp2_with fail
      go_ret
      exact ⟨rfl, HBB.out⟩
     | true =>
      refine wp_region_quiet_all (Below W7.heap.size W7) (by kernel_rfl) (by kernel_rfl) HD.out ?_
      intro T0 _ WW HWW HWW2
      have hbW : ∀ t, Below B w (WW t) := fun t => (HB7.out.trans ((HWW t).mono HB7.out.size)).mono hB
      have hzW : ∀ t, W7.heap.size ≤ (WW t).heap.size := fun t => (HWW t).size
      have a0 : ∀ t, (WW t).cell? _ = _ := fun t => ((HWW t).cell (p := ⟨w.heap.size, 0, none⟩) HU7.out.lt).trans (HU7.out.cell 0 rfl)
      have a1 : ∀ t, (WW t).cell? _ = _ := fun t => ((HWW t).cell (p := ⟨w.heap.size, 1, none⟩) HU7.out.lt).trans (HU7.out.cell 1 rfl)
      have HS1 : Hid (∀ t, Calls Tryz.prog 23 #[.agg #[.slice ok nk ck, .slice op' np cp']] (WW t) fun e w' => e = .returned (.bool s) ∧ ∃ t', w' = WW t') := Lib.hid (fun t => calls_class HWW2 ((lsound_any u _ B (WW t) (HV.out.kept (hbW t)) (by have := hzW t; have := HB7.out.size; omega) (Live.short_of_few HQ1.out (by omega))).mono fun e w' h => ⟨by rw [h.1, HS.out], ((HWW t).trans (h.2.mono (HWW t).size))⟩))
      have HS2 : Hid (∀ t, Calls Tryz.prog 24 #[.agg #[.slice ok nk ck, .slice op' np cp']] (WW t) fun e w' => e = .returned (.bool s) ∧ ∃ t', w' = WW t') := Lib.hid (fun t => calls_class HWW2 ((sound16ref_any u _ B (WW t) (HV.out.kept (hbW t)) (by have := hzW t; have := HB7.out.size; omega) (Live.short_of_few HQ1.out (by omega))).mono fun e w' h => ⟨by rw [h.1, HS.out], ((HWW t).trans (h.2.mono (HWW t).size))⟩))
      have c0 : ∀ t, (WW t).cell? _ = _ := fun t => ((HWW t).cell (p := ⟨w6.heap.size, 0, none⟩) HV7.out.lt).trans (HV7.out.cell 0 rfl)
      have c1 : ∀ t, (WW t).cell? _ = _ := fun t => ((HWW t).cell (p := ⟨w6.heap.size, 1, none⟩) HV7.out.lt).trans (HV7.out.cell 1 rfl)
      have HS3 : Hid (∀ t, Calls Tryz.prog 21 #[.agg #[.slice o6 l6 c6, .slice o7 n7 c7], .int .i64 300] (WW t) fun e w' => e = .returned (.bool true) ∧ ∃ t', w' = WW t') := Lib.hid (fun t => calls_class HWW2 ((few16_any m.rU _ 300 W7.heap.size (WW t) (HR7.out.kept (HWW t)) (hzW t) (by omega) (by omega) true HQ3.out).mono fun e w' h => ⟨h.1, ((HWW t).trans (h.2.mono (HWW t).size))⟩))
      have HS4 : Hid (∀ t, Calls Tryz.prog 23 #[.agg #[.slice o6 l6 c6, .slice o7 n7 c7]] (WW t) fun e w' => e = .returned (.bool true) ∧ ∃ t', w' = WW t') := Lib.hid (fun t => calls_class HWW2 ((lsound_any m.rU _ W7.heap.size (WW t) (HR7.out.kept (HWW t)) (hzW t) (Live.short_of_few HQ3.out (by omega))).mono fun e w' h => ⟨by rw [h.1, HSD.out rfl rfl], ((HWW t).trans (h.2.mono (HWW t).size))⟩))
      have HWH := Lib.hid HWW
      clear HWW HWW2 hbW hzW
      repeat (go_big_quiet_step (first | (go_at_call 23; with_reducible exact HS1.out _) | (go_at_call 24; exact HS2.out _) | (go_at_call 21; exact HS3.out _) | (go_at_call 23; with_reducible exact HS4.out _) | fail))
      refine wpQuiet_nil ?_
      intro t'
      have HBB := Lib.hid (HB7.out.trans ((HWH.out t').mono HB7.out.size))
      clear HWH a0 a1 HS1 HS2 c0 c1 HS3 HS4
      go_wp2_with fail
      go_ret
      exact ⟨rfl, HBB.out⟩
    ·refine wp_region_quiet_all (Below W7.heap.size W7) (by kernel_rfl) (by kernel_rfl) HD.out ?_
     intro T0 _ WW HWW HWW2
     have hbW : ∀ t, Below B w (WW t) := fun t => (HB7.out.trans ((HWW t).mono HB7.out.size)).mono hB
     have hzW : ∀ t, W7.heap.size ≤ (WW t).heap.size := fun t => (HWW t).size
     have a0 : ∀ t, (WW t).cell? _ = _ := fun t => ((HWW t).cell (p := ⟨w.heap.size, 0, none⟩) HU7.out.lt).trans (HU7.out.cell 0 rfl)
     have a1 : ∀ t, (WW t).cell? _ = _ := fun t => ((HWW t).cell (p := ⟨w.heap.size, 1, none⟩) HU7.out.lt).trans (HU7.out.cell 1 rfl)
     have HS1 : Hid (∀ t, Calls Tryz.prog 23 #[.agg #[.slice ok nk ck, .slice op' np cp']] (WW t) fun e w' => e = .returned (.bool s) ∧ ∃ t', w' = WW t') := Lib.hid (fun t => calls_class HWW2 ((lsound_any u _ B (WW t) (HV.out.kept (hbW t)) (by have := hzW t; have := HB7.out.size; omega) (Live.short_of_few HQ1.out (by omega))).mono fun e w' h => ⟨by rw [h.1, HS.out], ((HWW t).trans (h.2.mono (HWW t).size))⟩))
     have HS2 : Hid (∀ t, Calls Tryz.prog 24 #[.agg #[.slice ok nk ck, .slice op' np cp']] (WW t) fun e w' => e = .returned (.bool s) ∧ ∃ t', w' = WW t') := Lib.hid (fun t => calls_class HWW2 ((sound16ref_any u _ B (WW t) (HV.out.kept (hbW t)) (by have := hzW t; have := HB7.out.size; omega) (Live.short_of_few HQ1.out (by omega))).mono fun e w' h => ⟨by rw [h.1, HS.out], ((HWW t).trans (h.2.mono (HWW t).size))⟩))
     have HWH := Lib.hid HWW
     clear HWW HWW2 hbW hzW
     repeat (go_big_quiet_step (first | (go_at_call 23; with_reducible exact HS1.out _) | (go_at_call 24; exact HS2.out _) | fail))
     refine wpQuiet_nil ?_
     intro t'
     have HBB := Lib.hid (HB7.out.trans ((HWH.out t').mono HB7.out.size))
     clear HWH a0 a1 HS1 HS2
     go_wp2_with fail
     go_ret
     exact ⟨rfl, HBB.out⟩
end
end Go.Proofs.YtigkhmppnnljiaaGreatDoor
