/-
  What the proofs lean on: FShapeW.
-/
import Derived.BigQuiet
import Derived.Test.YtigkhmppnnljiaaGreatDoorFlatA35
namespace Go.Proofs.YtigkhmppnnljiaaGreatDoor
open Go Go.RowKit

set_option maxHeartbeats 16000000 in
set_option maxRecDepth 100000 in
theorem flatShape_walk (m : Mdl) (v : Value) (w : World) (hv : MdlR w w.heap.size m v) :
    Calls Tryz.prog 5 #[v] w fun e w' => e = .returned (.bool true) ∧ Below w.heap.size w w' := by
  obtain ⟨B, hBe⟩ : ∃ B, w.heap.size = B := ⟨_, rfl⟩
  rw [hBe] at hv
  have hB : B ≤ w.heap.size := by omega
  have HV := Lib.hid hv
  obtain ⟨cc, pp, b0, b1, b2, b3, rfl, hcon, hcod, hbody⟩ := hv
  obtain ⟨oc, lc, kc, rfl⟩ : ∃ o l c, cc = .slice o l c := by obtain ⟨o, l, c, h, _⟩ := hcon; exact ⟨o, l, c, h⟩
  obtain ⟨op, lp, kp, rfl⟩ := hcod.form
  obtain ⟨q, r', u, q', r'', u', rfl, rfl, rfl, rfl⟩ := trm_form hbody
  have HCOD := Lib.hid hcod
  have HLP := Lib.hid hcod.lens.1
  clear hcon hcod hbody hBe
  obtain ⟨W1, hW1⟩ : ∃ W1, w.alloc (.cells #[.slice oc lc kc, .slice op lp kp, .int .i64 m.body.op, .int .i64 m.body.n, .slice q r' u, .slice q' r'' u'] 43) = W1 := ⟨_, rfl⟩
  have HB1 := Lib.hid (show Below w.heap.size w W1 from by rw [← hW1]; exact Below.one w _)
  have HX1 := Lib.hid (show BoxL W1 w.heap.size 43 [.slice oc lc kc, .slice op lp kp, .int .i64 m.body.op, .int .i64 m.body.n, .slice q r' u, .slice q' r'' u'] from by rw [← hW1]; exact BoxL.new rfl _ _)
  have HW1 := Lib.hid hW1
  have HA := Lib.hid (awake14_any W1)
  clear hW1
  go_enter Tryz.func5, Tryz.ntmps5
  go_upto_region 1 with fail
  rw [HW1.out]
  go_wp2_with fail
  with_reducible refine HA.out.mono ?_
  rintro e w2 ⟨rfl, hb2⟩
  have HB2 := Lib.hid (HB1.out.trans (hb2.mono HB1.out.size))
  have HX2 := Lib.hid (HX1.out.keep hb2)
  clear hb2 HA HW1
  have u0 := HX2.out.cell 0 rfl
  have u1 := HX2.out.cell 1 rfl
  have u2 := HX2.out.cell 2 rfl
  have u3 := HX2.out.cell 3 rfl
  have u4 := HX2.out.cell 4 rfl
  have u5 := HX2.out.cell 5 rfl
  have ul := HX2.out.lt
  obtain ⟨fw, hfw⟩ : ∃ fw, m.fewB 300 = fw := ⟨_, rfl⟩
  have HF := Lib.hid (few14_any m _ 300 B w2 (HV.out.kept (HB2.out.mono hB)) (by have := HB2.out.size; omega) (by omega) (by omega) fw hfw)
  go_wp2_with fail
  with_reducible refine HF.out.mono ?_
  rintro e w3 ⟨rfl, hb3⟩
  have HB3 := Lib.hid (HB2.out.trans (hb3.mono HB2.out.size))
  have HX3 := Lib.hid (HX2.out.keep hb3)
  clear hb3 HF u0 u1 u2 u3 u4 u5 ul
  cases fw with
  | false =>
    go_wp2_with fail
    go_ret
    exact ⟨rfl, HB3.out⟩
  | true =>
    have HK := Lib.hid (fmake_to m _ B w3 (HV.out.kept (HB3.out.mono hB)) (by have := HB3.out.size; omega) 300 (by omega) hfw)
    have HFW := Lib.hid hfw
    clear hfw
    have u0 := HX3.out.cell 0 rfl
    have u1 := HX3.out.cell 1 rfl
    have u2 := HX3.out.cell 2 rfl
    have u3 := HX3.out.cell 3 rfl
    have u4 := HX3.out.cell 4 rfl
    have u5 := HX3.out.cell 5 rfl
    have ul := HX3.out.lt
    go_wp2_with fail
    with_reducible refine HK.out.mono ?_
    rintro e w4 ⟨cv, pv, rfl, hu, hb4⟩
    have HB4 := Lib.hid (HB3.out.trans (hb4.mono HB3.out.size))
    have HX4 := Lib.hid (HX3.out.keep hb4)
    obtain ⟨cv', pv', he, hcv, hpv⟩ := hu
    simp only [Value.agg.injEq, Array.mk.injEq, List.cons.injEq, and_true] at he
    obtain ⟨rfl, rfl⟩ := he
    obtain ⟨o0, l0, c0, rfl, hx0⟩ := hcv
    clear hx0
    obtain ⟨o1, np, c1, rfl⟩ := hpv.form
    have HPV := Lib.hid hpv
    have HNP := Lib.hid hpv.lens.1
    obtain ⟨W5, hW5⟩ : ∃ W5, w4.alloc (.cells #[.slice o0 l0 c0, .slice o1 np c1] 25) = W5 := ⟨_, rfl⟩
    have HB45 := Lib.hid (show Below w4.heap.size w4 W5 from by rw [← hW5]; exact Below.one w4 _)
    have HU5 := Lib.hid (show BoxL W5 w4.heap.size 25 [.slice o0 l0 c0, .slice o1 np c1] from by rw [← hW5]; exact BoxL.new rfl _ _)
    have HX5 := Lib.hid (HX4.out.keep HB45.out)
    have HB5 := Lib.hid (HB4.out.trans (HB45.out.mono HB4.out.size))
    have HW5 := Lib.hid hW5
    clear hb4 HK u0 u1 u2 u3 u4 u5 ul hW5 hpv
    obtain ⟨E, hE⟩ : ∃ E, m.makeErr Mk.lkL = E := ⟨_, rfl⟩
    rw [hE]
    go_upto_region 5 with fail
    rw [HW5.out]
    cases hok : (m.okB && (m.unit Mk.lkL).okB) with
    | false =>
      obtain rfl : (5 : Int) = E := by rw [← hE, Mdl.makeErr, hok]; rfl
      clear hE hok
      go_wp2_with fail
      go_ret
      exact ⟨rfl, HB5.out⟩
    | true =>
      obtain rfl : (0 : Int) = E := by rw [← hE, Mdl.makeErr, hok]; rfl
      have hmu : m.makeU Mk.lkL = m.unit Mk.lkL := by rw [Mdl.makeU, hok]; rfl
      rw [hmu] at HPV HNP
      rw [Bool.and_eq_true] at hok
      have HSH := Lib.hid (unit_shape hok.1 hok.2)
      have hnl : np = lp + 1 := by rw [HNP.out, HSH.out.1, HLP.out]
      have HNL := Lib.hid hnl
      have hlp50 : lp ≤ 50 := by have := (Mdl.few_facts HFW.out).1; have := HLP.out; omega
      have hnp51 : np ≤ 51 := by omega
      have hlpn : lp < np := by omega
      have hc1 : np ≤ c1 ∧ c1 ≤ 9223372036854775807 := HPV.out.lens.2
      have hkp : lp ≤ kp ∧ kp ≤ 9223372036854775807 := HCOD.out.lens.2
      clear hE hok hmu hnl
      have HPL := Lib.hid (show ∃ p, (m.unit Mk.lkL).procs[lp]? = some p from ⟨_, List.getElem?_eq_getElem (by rw [HSH.out.1, HLP.out]; omega)⟩)
      obtain ⟨pl, hpl⟩ := HPL.out
      obtain ⟨cl, hcl', hal', _⟩ := HSH.out.2 lp pl hpl
      have hz : pl.args = 0 := by rw [hal', (cods_last (by rw [← HLP.out]; exact hcl')).1]; rfl
      obtain ⟨tb, toff, cs, ho, hbB, hcl, hcell, hpr⟩ := HPV.out.at (HB45.out.mono (Nat.le_refl _)) hpl
      subst ho
      obtain ⟨sl, al, rfl, _, _, _, _⟩ := hpr
      have e0 := hcell 0 _ rfl
      rw [hz] at e0
      simp only [Nat.add_zero] at e0
      have u1 := HX5.out.cell 1 rfl
      have ul := HX5.out.lt
      have v1 := HU5.out.cell 1 rfl
      have vl := HU5.out.lt
      have g7 : ((np : Int) != (lp : Int) + 1) = false := by rw [HNL.out]; simp
      clear hpl hcl' hal' hz hcl hcell HPL
      go_wp2_with fail
      go_loopg [6] np (fun g i wr => ∃ j : Nat, g = np - j ∧ j ≤ np ∧ i = .int .i64 j ∧ Hid (Below W5.heap.size W5 wr))
      case atStart => exact ⟨0, rfl, by omega, rfl, Lib.hid (Below.refl _ _)⟩
      case round =>
        obtain ⟨j, rfl, hj, rfl, HR⟩ := hrel
        clear e0 u1 ul v1 vl g7
        have HXR := Lib.hid (HX5.out.keep HR.out)
        have HUR := Lib.hid (HU5.out.keep HR.out)
        have HBR := Lib.hid (HB5.out.trans (HR.out.mono HB5.out.size))
        have HB4R := Lib.hid (show Below w4.heap.size w4 wr from HB45.out.trans (HR.out.mono HB45.out.size))
        have v1 := HUR.out.cell 1 rfl
        have vl := HUR.out.lt
        by_cases hjl : j < np
        · obtain ⟨p, hx⟩ : ∃ p, (m.unit Mk.lkL).procs[j]? = some p := ⟨_, List.getElem?_eq_getElem (by rw [HSH.out.1]; have := HLP.out; have := HNL.out; omega)⟩
          obtain ⟨c, hcj, hargs, hrest, halv, hfr, hne, hr0, hr1, hcl5⟩ := HSH.out.2 j p hx
          obtain ⟨b1', off1, cs, ho1, hbB', hcl', hcell', hpr'⟩ := HPV.out.at HB4R.out hx
          simp only [Option.some.injEq, Addr.mk.injEq, and_true] at ho1
          obtain ⟨rfl, rfl⟩ := ho1
          obtain ⟨sl', al', rfl, _, _, hsl, hal⟩ := hpr'
          obtain ⟨osl, mc, csl, rfl⟩ := hsl.form
          obtain ⟨oal, lal, cal, rfl⟩ := hal.form
          obtain rfl : lal = 0 := by rw [hal.lens.1, halv]; rfl
          have e0 := hcell' 0 _ rfl
          have e1 := hcell' 1 _ rfl
          have e2 := hcell' 2 _ rfl
          have e3 := hcell' 3 _ rfl
          have e4 := hcell' 4 _ rfl
          simp only [Nat.add_zero] at e0
          obtain ⟨W7, hW7⟩ : ∃ W7, wr.alloc (.cells #[.int .i64 p.args, .bool p.rest, .int .i64 p.regs, .slice osl mc csl, .slice oal 0 cal] 31) = W7 := ⟨_, rfl⟩
          have HW7 := Lib.hid hW7
          have HR7 := Lib.hid (show Below wr.heap.size wr W7 from by rw [← hW7]; exact Below.one wr _)
          have HP7 := Lib.hid (show BoxL W7 wr.heap.size 31 [.int .i64 p.args, .bool p.rest, .int .i64 p.regs, .slice osl mc csl, .slice oal 0 cal] from by rw [← hW7]; exact BoxL.new rfl _ _)
          have HX7 := Lib.hid (HXR.out.keep HR7.out)
          have HB7 := Lib.hid (HBR.out.trans (HR7.out.mono HBR.out.size))
          have HMC := Lib.hid hsl.lens.1
          have HMS := Lib.hid hsl
          have HFR := Lib.hid hfr.fwd
          have gC : ((mc : Int) == 0) = false := by
            have h1 : mc ≠ 0 := fun h => hne (List.eq_nil_of_length_eq_zero (by rw [← HMC.out, h]))
            rw [beq_eq_false_iff_ne]; omega
          have hmc : mc ≤ 50000 := by rw [HMC.out]; exact hcl5
          have hmk : mc ≤ csl ∧ csl ≤ 9223372036854775807 := hsl.lens.2
          have HCJ := Lib.hid hcj
          have HAR := Lib.hid hargs
          have HRE := Lib.hid hrest
          clear hW7 hx hcj hcell' hcl' hsl hal hfr hne halv hargs hrest hr0 hr1 hcl5
          go_upto_region 13 with fail
          rw [HW7.out]
          clear e0 e1 e2 e3 e4 v1 vl HW7
          have HD := Lib.hid ((Below.refl W7.heap.size W7).drew)
          go_cut [93] from 54 to 93 (fun c wx => c = .bool false ∧ Hid (Below W7.heap.size W7 wx))
          case first => as_aux_lemma =>
            by_cases hlt : j < lp
            · obtain ⟨x, hxx⟩ : ∃ x, m.codes[j]? = some x := ⟨_, List.getElem?_eq_getElem (by rw [← HLP.out]; exact hlt)⟩
              obtain rfl := cods_at HCJ.out hxx
              obtain ⟨b9, off9, cs, ho9, hbB9, hcl9, hcell9, hcr9⟩ := HCOD.out.at (HB7.out.mono hB) hxx
              subst ho9
              obtain ⟨vs9, d0, d1, d2, d3, rfl, hv9, _⟩ := hcr9
              obtain ⟨ov9, lv9, cv9, rfl⟩ := hv9.form
              have f0 := hcell9 0 _ rfl
              have f1 := hcell9 1 _ rfl
              simp only [Nat.add_zero] at f0
              have f0l := cell_lt f0
              have gA : (p.args != (lv9 : Int)) = false := by rw [HAR.out, hv9.lens.1]; simp
              obtain ⟨rb, hr1, hr2⟩ : ∃ rb, p.rest = rb ∧ x.rest = rb := ⟨x.rest, HRE.out, rfl⟩
              have hp7 := HP7.out
              rw [hr1] at hp7
              rw [hr2] at f1
              have HP8 := Lib.hid hp7
              clear hp7 hr1 hr2
              have gi : decide ((j : Int) < (lp : Int)) = true := decide_eq_true (by omega)
              have hbb : b9 < W7.heap.size := f0l
              clear hxx hcell9 hcl9 hv9
              refine wp_region_quiet_all (Below W7.heap.size W7) (by kernel_rfl) (by kernel_rfl) HD.out ?_
              intro T0 _ WW HWW HWW2
              have x1 : ∀ t, (WW t).cell? _ = _ := fun t => ((HWW t).cell (p := ⟨w.heap.size, 1, none⟩) HX7.out.lt).trans (HX7.out.cell 1 rfl)
              have y0 : ∀ t, (WW t).cell? _ = _ := fun t => ((HWW t).cell (p := ⟨wr.heap.size, 0, none⟩) HP8.out.lt).trans (HP8.out.cell 0 rfl)
              have y1 : ∀ t, (WW t).cell? _ = _ := fun t => ((HWW t).cell (p := ⟨wr.heap.size, 1, none⟩) HP8.out.lt).trans (HP8.out.cell 1 rfl)
              have y3 : ∀ t, (WW t).cell? _ = _ := fun t => ((HWW t).cell (p := ⟨wr.heap.size, 3, none⟩) HP8.out.lt).trans (HP8.out.cell 3 rfl)
              have y4 : ∀ t, (WW t).cell? _ = _ := fun t => ((HWW t).cell (p := ⟨wr.heap.size, 4, none⟩) HP8.out.lt).trans (HP8.out.cell 4 rfl)
              have z0 : ∀ t, (WW t).cell? _ = _ := fun t => ((HWW t).cell (p := ⟨b9, off9 + j * 6, none⟩) f0l).trans f0
              have z1 : ∀ t, (WW t).cell? _ = _ := fun t => ((HWW t).cell (p := ⟨b9, off9 + j * 6 + 1, none⟩) f0l).trans f1
              have HWH := Lib.hid HWW
              clear HWW HWW2 f0 f1
              repeat (go_big_quiet_step (fail))
              refine wpQuiet_nil ?_
              intro t'
              have HT := Lib.hid (HWH.out t')
              clear x1 y0 y1 y3 y4 z0 z1 HWH
              go_wp2_with fail
              go_meet
              exact ⟨rfl, HT⟩
            · have gi : decide ((j : Int) < (lp : Int)) = false := decide_eq_false (by omega)
              refine wp_region_quiet_all (Below W7.heap.size W7) (by kernel_rfl) (by kernel_rfl) HD.out ?_
              intro T0 _ WW HWW HWW2
              have x1 : ∀ t, (WW t).cell? _ = _ := fun t => ((HWW t).cell (p := ⟨w.heap.size, 1, none⟩) HX7.out.lt).trans (HX7.out.cell 1 rfl)
              have y3 : ∀ t, (WW t).cell? _ = _ := fun t => ((HWW t).cell (p := ⟨wr.heap.size, 3, none⟩) HP7.out.lt).trans (HP7.out.cell 3 rfl)
              have y4 : ∀ t, (WW t).cell? _ = _ := fun t => ((HWW t).cell (p := ⟨wr.heap.size, 4, none⟩) HP7.out.lt).trans (HP7.out.cell 4 rfl)
              have HWH := Lib.hid HWW
              clear HWW HWW2
              repeat (go_big_quiet_step (fail))
              refine wpQuiet_nil ?_
              intro t'
              have HT := Lib.hid (HWH.out t')
              clear x1 y3 y4 HWH
              go_wp2_with fail
              go_meet
              exact ⟨rfl, HT⟩
          case rest =>
          obtain ⟨rfl, HC7⟩ := hcut
          have HPC := Lib.hid (HP7.out.keep HC7.out)
          have y3 := HPC.out.cell 3 rfl
          have yl := HPC.out.lt
          have HBC := Lib.hid (HB7.out.trans (HC7.out.mono HB7.out.size))
          have HRC := Lib.hid (show Below W5.heap.size W5 wc from (HR.out.trans (HR7.out.mono HR.out.size)).trans (HC7.out.mono (Nat.le_trans HR.out.size HR7.out.size)))
          have HB4C := Lib.hid (show Below w4.heap.size w4 wc from HB45.out.trans (HRC.out.mono HB45.out.size))
          clear HP7 HX7 HCJ HAR HRE gC
          go_wp2_with fail
          go_loopg [8] mc (fun g i wx => ∃ k : Nat, g = mc - k ∧ k ≤ mc ∧ i = .int .i64 k ∧ Hid (Below wc.heap.size wc wx))
          case atStart => exact ⟨0, rfl, by omega, rfl, Lib.hid (Below.refl _ _)⟩
          case round =>
            obtain ⟨k, rfl, hk, rfl, HK⟩ := hrel
            clear y3 yl
            have HPK := Lib.hid (HPC.out.keep HK.out)
            have y3 := HPK.out.cell 3 rfl
            have yl := HPK.out.lt
            by_cases hkl : k < mc
            · obtain ⟨x, hx⟩ : ∃ x, p.code[k]? = some x := ⟨_, List.getElem?_eq_getElem (by rw [← HMC.out]; exact hkl)⟩
              have hfw := HFR.out.at hx
              obtain ⟨b2', off2, ds, ho2, hb2B, hdl, hdcell, hins⟩ := HMS.out.at (HB4C.out.trans (HK.out.mono HB4C.out.size)) hx
              subst ho2
              obtain ⟨sl2, rfl, _, _, _, _, hsl2⟩ := hins
              obtain ⟨o4, l4, c4, rfl⟩ := hsl2.form
              have e0 := hdcell 0 _ rfl
              have e1 := hdcell 1 _ rfl
              have e2 := hdcell 2 _ rfl
              have e3 := hdcell 3 _ rfl
              have e4 := hdcell 4 _ rfl
              simp only [Nat.add_zero] at e0
              obtain ⟨xop, xd, xa, xb, xl⟩ := x
              obtain ⟨W9, hW9⟩ : ∃ W9, wr.alloc (.cells #[.int .i64 xop, .int .i64 xd, .int .i64 xa, .int .i64 xb, .slice o4 l4 c4] 34) = W9 := ⟨_, rfl⟩
              have HW9 := Lib.hid hW9
              have HR9 := Lib.hid (show Below wr.heap.size wr W9 from by rw [← hW9]; exact Below.one wr _)
              have HX9 := Lib.hid (show BoxL W9 wr.heap.size 34 [.int .i64 xop, .int .i64 xd, .int .i64 xa, .int .i64 xb, .slice o4 l4 c4] from by rw [← hW9]; exact BoxL.new rfl _ _)
              have HP9 := Lib.hid (HPK.out.keep HR9.out)
              have HK9 := Lib.hid (show Below wc.heap.size wc W9 from HK.out.trans (HR9.out.mono HK.out.size))
              obtain ⟨_, hf15, hf16⟩ := hfw
              rw [Nat.zero_add, Nat.zero_add] at hf15 hf16
              rw [← HMC.out] at hf15 hf16
              dsimp only at hf15 hf16
              clear hW9 hx hdcell hdl hsl2
              go_upto_region 19 with fail
              rw [HW9.out]
              clear e0 e1 e2 e3 e4 y3 yl HW9
              have x0 := HX9.out.cell 0 rfl
              have x2 := HX9.out.cell 2 rfl
              have x3 := HX9.out.cell 3 rfl
              have xl0 := HX9.out.lt
              have y3 := HP9.out.cell 3 rfl
              have yl := HP9.out.lt
              by_cases h15 : xop = 15
              · have q15 : (xop == 15) = true := by simp [h15]
                have q16 : (xop == 16) = false := by simp [h15]
                have qa : decide (xa ≤ (k : Int)) = false := decide_eq_false (by have := (hf15 h15).1; omega)
                have qb : decide ((mc : Int) < xa) = false := decide_eq_false (by have := (hf15 h15).2; omega)
                clear hf15 hf16 h15
                go_wp2_with fail
                go_roundg (mc - (k + 1))
                case measure => omega
                case rel => exact ⟨k + 1, rfl, by omega, by go_num, HK9⟩
              · have q15 : (xop == 15) = false := by simp [h15]
                by_cases h16 : xop = 16
                · have q16 : (xop == 16) = true := by simp [h16]
                  have qa : decide (xb ≤ (k : Int)) = false := decide_eq_false (by have := (hf16 h16).1; omega)
                  have qb : decide ((mc : Int) ≤ xb) = false := decide_eq_false (by have := (hf16 h16).2; omega)
                  clear hf15 hf16 h15 h16
                  go_wp2_with fail
                  go_roundg (mc - (k + 1))
                  case measure => omega
                  case rel => exact ⟨k + 1, rfl, by omega, by go_num, HK9⟩
                · have q16 : (xop == 16) = false := by simp [h16]
                  clear hf15 hf16 h15 h16
                  go_wp2_with fail
                  go_roundg (mc - (k + 1))
                  case measure => omega
                  case rel => exact ⟨k + 1, rfl, by omega, by go_num, HK9⟩
            · have HRX := Lib.hid (HRC.out.trans (HK.out.mono HRC.out.size))
              go_wp2_with fail
              go_roundg (np - (j + 1))
              case measure => omega
              case rel => exact ⟨j + 1, rfl, by omega, by go_num, HRX⟩
        · go_wp2_with fail
          go_ret
          exact ⟨rfl, HBR.out⟩
end Go.Proofs.YtigkhmppnnljiaaGreatDoor
