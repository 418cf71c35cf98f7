/-
  What the proofs lean on: PeepRestsW.
-/
import Derived.BigQuiet
import Derived.Test.YtigkhmppnnljiaaGreatDoorPreA13
import Derived.Test.YtigkhmppnnljiaaGreatDoorPreA14
import Derived.Test.YtigkhmppnnljiaaGreatDoorPreA18
import Derived.Test.YtigkhmppnnljiaaGreatDoorPreA24
import Derived.Test.YtigkhmppnnljiaaGreatDoorPreA26
import Derived.Test.YtigkhmppnnljiaaGreatDoorPreA28
import Derived.Test.YtigkhmppnnljiaaGreatDoorPreA29
import Derived.Test.YtigkhmppnnljiaaGreatDoorPreA30
import Derived.Test.YtigkhmppnnljiaaGreatDoorPreA31
import Derived.Test.YtigkhmppnnljiaaGreatDoorPreA35
import Derived.Test.YtigkhmppnnljiaaGreatDoorPreA36
import Derived.Test.YtigkhmppnnljiaaGreatDoorPreA45
set_option maxRecDepth 100000
set_option maxHeartbeats 16000000
namespace Go.Proofs.YtigkhmppnnljiaaGreatDoor
section
open Go Go.RowKit Mdl
namespace Peep
structure Rested (V : Unt) : Prop where
 ok : clErr V = 0
 fix : cleanU V = V
 short : Live.Short V
 consts : V.consts.length ≤ 2000
 procs : ∀ p ∈ V.procs, p.alive = [] ∧ p.code.length ≤ 100000
 rest : ∀ p ∈ V.procs, Rest p.code
theorem rested_of {m : Mdl} (h : m.rErr = 0) (hf : Unt.fewB m.rU 400 (10 * 400) = true) : clErr m.rU = 0 ∧ Live.Short m.rU ∧ m.rU.consts.length ≤ 2000 ∧ Rested (cleanU m.rU) := by
 have hok : m.rokB = true ∧ (m.unit Mk.lkL).okB = true := by
  rw [rErr] at h
  cases hok : (m.rokB && (m.unit Mk.lkL).okB) with
  | false => rw [hok] at h; cases h
  | true => simpa using hok
 have hU : m.rU = m.unit Mk.lkL := by rw [rU, hok.1, hok.2]; rfl
 rw [hU] at hf ⊢
 obtain ⟨g1, g2⟩ := unit_made (rok_ok hok.1).1 hok.2
 obtain ⟨r1, r2⟩ := rests g1 g2
 have hs := Live.short_of_few hf (by decide)
 have hs2 := clean_short g1 hs
 refine ⟨by rw [clErr, g1]; rfl, hs, few_consts hf, by rw [clErr, cleanU_ok g1]; rfl, r1, hs2, by rw [cleanU_eq g1]; exact (few_consts hf : (m.unit Mk.lkL).consts.length ≤ 2000), fun p hp => ⟨?_, by have := (hs2 p hp).1; omega⟩, r2⟩
 rw [cleanU_eq g1] at hp
 obtain ⟨q, _, rfl⟩ := List.mem_map.1 hp
 rfl
end Peep
theorem peepRests_walk (m : Mdl) (v : Value) (w : World) (hm : MdlR w w.heap.size m v) (hs : m.slim) :
  Calls Tryz.prog 9 #[v] w fun e w' => e = .returned (.bool true) ∧ Below w.heap.size w w' := by
 obtain ⟨B, hBe⟩ : ∃ B, w.heap.size = B := ⟨_, rfl⟩
 rw [hBe] at hm
 have hB : B ≤ w.heap.size := by omega
 have HM := Lib.hid hm
 have HSL := Lib.hid hs
 obtain ⟨cc, pp, b0, b1, b2, b3, rfl, hcon, hcod, hbody⟩ := hm
 obtain ⟨oc, lc, kc, rfl⟩ : ∃ o l c, cc = .slice o l c := by obtain ⟨o, l, c, h, _⟩ := hcon; exact ⟨o, l, c, h⟩
 obtain ⟨op, lp, kp, rfl⟩ := hcod.form
 obtain ⟨q, r', u', q', r'', u'', rfl, rfl, rfl, rfl⟩ := trm_form hbody
 have HLP := Lib.hid hcod.lens.1
 have hkp : lp ≤ kp ∧ kp ≤ 9223372036854775807 := hcod.lens.2
 clear hcon hcod hbody hBe hs
 obtain ⟨W1, hW1⟩ : ∃ W1, w.alloc (.cells #[.slice oc lc kc, .slice op lp kp, .int .i64 m.body.op, .int .i64 m.body.n, .slice q r' u', .slice q' r'' u''] 43) = W1 := ⟨_, rfl⟩
 have HB1 := Lib.hid (show Below w.heap.size w W1 from by rw [← hW1]; exact Below.one w _)
 have HX1 := Lib.hid (show BoxL W1 w.heap.size 43 [.slice oc lc kc, .slice op lp kp, .int .i64 m.body.op, .int .i64 m.body.n, .slice q r' u', .slice q' r'' u''] from by rw [← hW1]; exact BoxL.new rfl _ _)
 have HW1 := Lib.hid hW1
 have HA := Lib.hid (awake18_any W1)
 clear hW1
 go_enter Tryz.func9, Tryz.ntmps9
 go_upto_region 1 with fail
 rw [HW1.out]
 go_wp2_with fail
 with_reducible refine HA.out.mono ?_
 rintro e w2 ⟨rfl, hb2⟩
 have HB2 := Lib.hid (HB1.out.trans (hb2.mono HB1.out.size))
 have HX2 := Lib.hid (HX1.out.keep hb2)
 clear hb2 HA HW1
 have x0 := HX2.out.cell 0 rfl
 have x1 := HX2.out.cell 1 rfl
 have x2 := HX2.out.cell 2 rfl
 have x3 := HX2.out.cell 3 rfl
 have x4 := HX2.out.cell 4 rfl
 have x5 := HX2.out.cell 5 rfl
 have xl := HX2.out.lt
 by_cases hl20 : 20 < lp
 ·have g20 : decide ((20 : Int) < (lp : Int)) = true := decide_eq_true (by omega)
  go_wp2_with fail
  go_ret
  exact ⟨rfl, HB2.out⟩
 ·have g20 : decide ((20 : Int) < (lp : Int)) = false := decide_eq_false (by omega)
  have HZ := Lib.hid (zmake_any m _ B w2 (HM.out.kept (HB2.out.mono hB)) (by have := HB2.out.size; omega) HSL.out (by rw [← HLP.out]; omega))
  go_wp2_with fail
  with_reducible refine HZ.out.mono ?_
  rintro e w3 ⟨cv3, pv3, rfl, hu3, hb3⟩
  have HB3 := Lib.hid (HB2.out.trans (hb3.mono HB2.out.size))
  have HU3 := Lib.hid hu3
  obtain ⟨cv', pv', he, hcv, hpv⟩ := hu3
  simp only [Value.agg.injEq, Array.mk.injEq, List.cons.injEq, and_true] at he
  obtain ⟨rfl, rfl⟩ := he
  obtain ⟨o3, l3, c3, rfl, hx3⟩ := hcv
  clear hx3
  obtain ⟨o4, n4, c4, rfl⟩ := hpv.form
  clear hpv hb3 HZ x0 x1 x2 x3 x4 x5 xl HX1 HX2 g20
  obtain ⟨W4, hW4⟩ : ∃ W4, w3.alloc (.cells #[.slice o3 l3 c3, .slice o4 n4 c4] 25) = W4 := ⟨_, rfl⟩
  have HB34 := Lib.hid (show Below w3.heap.size w3 W4 from by rw [← hW4]; exact Below.one w3 _)
  have HV4 := Lib.hid (show BoxL W4 w3.heap.size 25 [.slice o3 l3 c3, .slice o4 n4 c4] from by rw [← hW4]; exact BoxL.new rfl _ _)
  have HB4 := Lib.hid (HB3.out.trans (HB34.out.mono HB3.out.size))
  have HU4 := Lib.hid (HU3.out.kept HB34.out |>.wider HB34.out.size)
  have HW4 := Lib.hid hW4
  clear hW4 HU3
  obtain ⟨E, hE⟩ : ∃ E, m.rErr = E := ⟨_, rfl⟩
  have HE := Lib.hid hE
  rw [hE]
  clear hE
  have hE05 : E = 0 ∨ E = 5 := by
   rw [← HE.out, rErr]
   split
   ·exact .inl rfl
   ·exact .inr rfl
  rcases hE05 with rfl | rfl
  rotate_left
  ·go_upto_region 5 with fail
   rw [HW4.out]
   go_wp2_with fail
   go_ret
   exact ⟨rfl, HB4.out⟩
  ·obtain ⟨q1, hq1⟩ : ∃ q1, Unt.fewB m.rU 400 (10 * 400) = q1 := ⟨_, rfl⟩
   have HQ1 := Lib.hid hq1
   have HF1 := Lib.hid (few18_any m.rU _ 400 W4.heap.size W4 HU4.out (Nat.le_refl _) (by omega) (by omega) q1 hq1)
   clear hq1
   go_upto_region 5 with fail
   rw [HW4.out]
   have y0 := HV4.out.cell 0 rfl
   have y1 := HV4.out.cell 1 rfl
   have yl := HV4.out.lt
   go_wp2_with fail
   with_reducible refine HF1.out.mono ?_
   rintro e w5 ⟨rfl, hb5⟩
   have HB5 := Lib.hid (HB4.out.trans (hb5.mono HB4.out.size))
   have HV5 := Lib.hid (HV4.out.keep hb5)
   have HU5 := Lib.hid (HU4.out.kept hb5)
   have hs5 := hb5.size
   clear hb5 HF1 y0 y1 yl
   cases q1 with
   | false =>
    go_wp2_with fail
    go_ret
    exact ⟨rfl, HB5.out⟩
   | true =>
    obtain ⟨g1, g2, g3, g4⟩ := Peep.rested_of HE.out HQ1.out
    have HR := Lib.hid g4
    have HC := Lib.hid (cleanU_any m.rU _ W4.heap.size w5 HU5.out hs5 g2 (by omega))
    rw [g1] at HC
    obtain ⟨V, hV⟩ : ∃ V, Peep.cleanU m.rU = V := ⟨_, rfl⟩
    rw [hV] at HC HR
    have y0 := HV5.out.cell 0 rfl
    have y1 := HV5.out.cell 1 rfl
    have yl := HV5.out.lt
    clear g1 g2 g3 g4 hV hs5
    go_wp2_with fail
    with_reducible refine HC.out.mono ?_
    rintro e w6 ⟨cv6, pv6, rfl, hu6, hb6⟩
    have HB6 := Lib.hid (HB5.out.trans (hb6.mono HB5.out.size))
    have HU6 := Lib.hid hu6
    obtain ⟨cv', pv', he, hcv, hpv⟩ := hu6
    simp only [Value.agg.injEq, Array.mk.injEq, List.cons.injEq, and_true] at he
    obtain ⟨rfl, rfl⟩ := he
    obtain ⟨o6, l6, c6, rfl, hx6⟩ := hcv
    clear hx6
    have HPV := Lib.hid hpv
    obtain ⟨o7, n7, c7, rfl⟩ := hpv.form
    have HNL := Lib.hid hpv.lens.1
    have hpc : n7 ≤ c7 ∧ c7 ≤ 9223372036854775807 := hpv.lens.2
    clear hpv hb6 HC y0 y1 yl HV4 HV5
    obtain ⟨W7, hW7⟩ : ∃ W7, w6.alloc (.cells #[.slice o6 l6 c6, .slice o7 n7 c7] 25) = W7 := ⟨_, rfl⟩
    have HB67 := Lib.hid (show Below w6.heap.size w6 W7 from by rw [← hW7]; exact Below.one w6 _)
    have HV7 := Lib.hid (show BoxL W7 w6.heap.size 25 [.slice o6 l6 c6, .slice o7 n7 c7] from by rw [← hW7]; exact BoxL.new rfl _ _)
    have HB7 := Lib.hid (HB6.out.trans (HB67.out.mono HB6.out.size))
    have HU7 := Lib.hid (HU6.out.kept HB67.out |>.wider HB67.out.size)
    have HW7 := Lib.hid hW7
    clear hW7
    have HC := Lib.hid (cleanU_any V _ W7.heap.size W7 HU7.out (Nat.le_refl _) HR.out.short (by have := HR.out.consts; omega))
    rw [HR.out.ok, HR.out.fix] at HC
    go_upto_region 8 with fail
    rw [HW7.out]
    have y0 := HV7.out.cell 0 rfl
    have y1 := HV7.out.cell 1 rfl
    have yl := HV7.out.lt
    go_wp2_with fail
    with_reducible refine HC.out.mono ?_
    rintro e w8 ⟨cv8, pv8, rfl, hu8, hb8⟩
    have HB8 := Lib.hid (HB7.out.trans (hb8.mono HB7.out.size))
    have HB68 := Lib.hid (HB67.out.trans (hb8.mono HB67.out.size))
    have HV8 := Lib.hid (HV7.out.keep hb8)
    have HU8 := Lib.hid hu8
    have HU78 := Lib.hid (HU7.out.kept hb8 |>.wider hb8.size)
    obtain ⟨cv', pv', he, hcv, hpv⟩ := hu8
    simp only [Value.agg.injEq, Array.mk.injEq, List.cons.injEq, and_true] at he
    obtain ⟨rfl, rfl⟩ := he
    obtain ⟨o8, l8, c8, rfl, hx8⟩ := hcv
    clear hx8
    obtain ⟨o9, n9, c9, rfl⟩ := hpv.form
    clear hpv hb8 HC y0 y1 yl HV7 HU7 HW7
    obtain ⟨W9, hW9⟩ : ∃ W9, w8.alloc (.cells #[.slice o8 l8 c8, .slice o9 n9 c9] 25) = W9 := ⟨_, rfl⟩
    have HB89 := Lib.hid (show Below w8.heap.size w8 W9 from by rw [← hW9]; exact Below.one w8 _)
    have HX9 := Lib.hid (show BoxL W9 w8.heap.size 25 [.slice o8 l8 c8, .slice o9 n9 c9] from by rw [← hW9]; exact BoxL.new rfl _ _)
    have HV9 := Lib.hid (HV8.out.keep HB89.out)
    have HB9 := Lib.hid (HB8.out.trans (HB89.out.mono HB8.out.size))
    have HB69 := Lib.hid (HB68.out.trans (HB89.out.mono HB68.out.size))
    have HS := Lib.hid (same_self V _ _ W9.heap.size W9 (HU78.out.kept HB89.out |>.wider HB89.out.size) (HU8.out.kept HB89.out |>.wider HB89.out.size) (Nat.le_refl _) HR.out.procs)
    have HW9 := Lib.hid hW9
    clear hW9 HV8 HU8 HU78
    go_upto_region 9 with fail
    rw [HW9.out]
    have y0 := HV9.out.cell 0 rfl
    have y1 := HV9.out.cell 1 rfl
    have yl := HV9.out.lt
    have z0 := HX9.out.cell 0 rfl
    have z1 := HX9.out.cell 1 rfl
    have zl := HX9.out.lt
    go_wp2_with fail
    with_reducible refine HS.out.mono ?_
    rintro e wa ⟨rfl, hba⟩
    have HBa := Lib.hid (HB9.out.trans (hba.mono HB9.out.size))
    have HB6a := Lib.hid (HB69.out.trans (hba.mono HB69.out.size))
    have HVa := Lib.hid (HV9.out.keep hba)
    clear hba HS y0 y1 yl z0 z1 zl HX9 HV9 HW9
    have HWR0 := Lib.hid (Below.refl wa.heap.size wa)
    go_wp2_with fail
    go_loopg [9] n7 (fun G i wr => ∃ j : Nat, G = n7 - j ∧ j ≤ n7 ∧ i = .int .i64 j ∧ Hid (Below wa.heap.size wa wr))
    case atStart => exact ⟨0, rfl, by omega, rfl, HWR0⟩
    case round =>
     obtain ⟨j, rfl, hj, rfl, HW⟩ := hrel
     clear HWR0
     obtain ⟨wo, rfl⟩ : ∃ wo : World, wo = wr := ⟨_, rfl⟩
     have HBo := Lib.hid (HBa.out.trans (HW.out.mono HBa.out.size))
     have HB6o := Lib.hid (HB6a.out.trans (HW.out.mono HB6a.out.size))
     have HVo := Lib.hid (HVa.out.keep HW.out)
     have y1 := HVo.out.cell 1 rfl
     have yl := HVo.out.lt
     by_cases hjl : j < n7
     ·obtain ⟨p, hpj⟩ : ∃ p, V.procs[j]? = some p := ⟨_, List.getElem?_eq_getElem (by rw [← HNL.out]; exact hjl)⟩
      have hmem := List.mem_of_getElem? hpj
      obtain ⟨b1, off1, cs, ho1, hb1B, hcl, hcell, sl0, al0, rfl, _, _, hsl, hal⟩ := HPV.out.at HB6o.out hpj
      subst ho1
      obtain ⟨ocd, mm, ccd, rfl⟩ := hsl.form
      have e3 := hcell 3 _ rfl
      have hel := cell_lt e3
      have HRE := Lib.hid (HR.out.rest p hmem)
      have hlen := (HR.out.procs p hmem).2
      obtain ⟨code, hcode⟩ : ∃ code, p.code = code := ⟨_, rfl⟩
      rw [hcode] at hsl hlen HRE
      have HML := Lib.hid hsl.lens.1
      have hmm : mm ≤ 100000 := by rw [HML.out]; exact hlen
      have hmc := hsl.lens.2
      have HCO := Lib.hid (codeR_kept hsl HB6o.out)
      have h6o : w6.heap.size ≤ wo.heap.size := HB6o.out.size
      have HZ := Lib.hid (Below.refl wo.heap.size wo)
      clear hpj hcell hcl hsl hal hcode hmem hlen
      go_wp2_with fail
      go_loopg [11] mm (fun G i wq => ∃ k : Nat, G = mm - k ∧ k ≤ mm ∧ i = .int .i64 k ∧ Hid (Below wo.heap.size wo wq))
      case atStart => exact ⟨0, rfl, by omega, rfl, HZ⟩
      case round =>
       obtain ⟨k, rfl, hk, rfl, HQ⟩ := hrel
       clear HZ y1 yl e3 hel
       by_cases hkm : k < mm
       ·obtain ⟨x, hx⟩ : ∃ x, code[k]? = some x := ⟨_, List.getElem?_eq_getElem (by rw [← HML.out]; exact hkm)⟩
        have hbq : Below w6.heap.size wo wr := HQ.out.mono h6o
        obtain ⟨b6, off6, cs6, ho6, hb6B, hcl6, hcell6, hins⟩ := HCO.out.at hbq hx
        subst ho6
        match cs6, hcl6 with
        | [t0, t1, t2, t3, t4], _ =>
         obtain ⟨ls, he6, _, _, _, _, hls⟩ := hins
         obtain ⟨ol, ll, cl, rfl⟩ := hls.form
         simp only [List.cons.injEq, and_true] at he6
         obtain ⟨rfl, rfl, rfl, rfl, rfl⟩ := he6
         have f0 := hcell6 0 _ rfl
         have f2 := hcell6 2 _ rfl
         have hfl := cell_lt f0
         rw [Nat.add_zero] at f0
         obtain ⟨xo, xd, xa, xb, xl⟩ := x
         dsimp only at f0 f2
         by_cases h15 : xo = 15
         ·subst h15
          obtain ⟨ha0, hak, z, hz, hz15⟩ := HRE.out.ahead k _ hx xa (.inl ⟨rfl, rfl⟩)
          have hfar := HRE.out.far k _ hx rfl
          dsimp only at hfar
          obtain ⟨ta, rfl⟩ := Int.eq_ofNat_of_zero_le ha0
          rw [Int.toNat_natCast] at hak hz
          have htl : ta < mm := by rw [HML.out]; exact (List.getElem?_eq_some_iff.1 hz).1
          obtain ⟨b7, off7, cs7, ho7, hb7B, hcl7, hcell7, hins7⟩ := HCO.out.at hbq hz
          simp only [Option.some.injEq, Addr.mk.injEq, and_true] at ho7
          obtain ⟨rfl, rfl⟩ := ho7
          match cs7, hcl7 with
          | [r0, r1, r2, r3, r4], _ =>
           obtain ⟨ls7, he7, _, _, _, _, hls7⟩ := hins7
           simp only [List.cons.injEq, and_true] at he7
           obtain ⟨rfl, rfl, rfl, rfl, rfl⟩ := he7
           have g0 := hcell7 0 _ rfl
           rw [Nat.add_zero] at g0
           obtain ⟨zo, zd, za, zb, zl⟩ := z
           dsimp only at g0 hz15
           have i1 : decide ((ta : Int) < 0) = false := decide_eq_false (by omega)
           have i2 : decide ((ta : Int) ≥ (mm : Int)) = false := decide_eq_false (by omega)
           have i3 : ((ta : Int) == (k : Int) + 1) = false := by simpa using hfar
           have i4 : (zo == 15) = false := by simpa using hz15
           clear hcell6 hcl6 hls hx hcell7 hcl7 hls7 hz ha0 hfar hz15 hak
           go_wp2_with fail
           go_roundg (mm - (k + 1))
           case measure => omega
           case rel => exact ⟨k + 1, rfl, by omega, by go_num, HQ⟩
         ·have f15 : (xo == 15) = false := by simpa using h15
          clear hcell6 hcl6 hls hx
          go_wp2_with fail
          go_roundg (mm - (k + 1))
          case measure => omega
          case rel => exact ⟨k + 1, rfl, by omega, by go_num, HQ⟩
       ·obtain rfl : k = mm := by omega
        have HWQ := Lib.hid (Below.next HW.out HQ.out)
        go_wp2_with fail
        go_roundg (n7 - (j + 1))
        case measure => omega
        case rel => exact ⟨j + 1, rfl, by omega, by go_num, HWQ⟩
     ·obtain rfl : j = n7 := by omega
      go_wp2_with fail
      go_ret
      exact ⟨rfl, HBo.out⟩
end
end Go.Proofs.YtigkhmppnnljiaaGreatDoor
