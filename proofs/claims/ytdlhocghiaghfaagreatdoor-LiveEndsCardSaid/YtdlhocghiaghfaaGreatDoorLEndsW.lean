/-
  The walk of LiveEnds.
-/
import Derived.Test.YtdlhocghiaghfaaGreatDoorLawsL
import Derived.Test.YtdlhocghiaghfaaGreatDoorRNamed
namespace Go.Proofs.YtdlhocghiaghfaaGreatDoor
open Go.RowKit

set_option maxHeartbeats 8000000 in
set_option maxRecDepth 100000 in
theorem liveEnds_walk (u : Unt) (v : Value) (n : Int) (w : World) (hv : UntR w w.heap.size u v) :
    Calls Tryz.prog 9 #[v, .int .i64 n] w fun e w' => e = .returned (.bool true) ∧ Below w.heap.size w w' := by
  obtain ⟨B, hBe⟩ : ∃ B, w.heap.size = B := ⟨_, rfl⟩
  rw [hBe] at hv
  have hB : B ≤ w.heap.size := by omega
  have HBE := Lib.hid hBe
  clear hBe
  have HV := Lib.hid hv
  obtain ⟨cv, pv, rfl, hc, hp⟩ := hv
  obtain ⟨op', np, cp', rfl, hnp, hcapp, hmaxp⟩ := hp.slice
  obtain ⟨ok, nk, ck, rfl, hcx⟩ := hc
  have HP := Lib.hid hp
  have HNP := Lib.hid hnp
  clear hcx hp hnp
  have HAW := Lib.hid (fun X => awake16_any (w.alloc X))
  have BU0 := Lib.hid (BoxL.new (W := w) rfl 25 [.slice ok nk ck, .slice op' np cp'])
  go_enter Tryz.func9, Tryz.ntmps9
  go_wp2_with fail
  refine (HAW.out _).mono ?_
  rintro e w0 ⟨rfl, hb0⟩
  have HB0 := Lib.hid (one_below hb0)
  have BU1 := Lib.hid (BU0.out.keep hb0)
  have U0 := BU1.out.cell 0 rfl
  have U1 := BU1.out.cell 1 rfl
  have hul := BU1.out.lt
  have hs0 := HB0.out.size
  obtain ⟨q, hq⟩ : ∃ q, Unt.fewB u 150 150 = q := ⟨_, rfl⟩
  have HFE := Lib.hid (few16_any u _ 150 B w0 (HV.out.kept (HB0.out.mono hB)) (by omega) (by omega) (by omega) q hq)
  have HQF := Lib.hid hq
  clear hb0 hq HAW BU0
  go_wp2_with fail
  refine HFE.out.mono ?_
  rintro e w1 ⟨rfl, hb1⟩
  have HB1 := Lib.hid (Below.next HB0.out hb1)
  have BU2 := Lib.hid (BU1.out.keep hb1)
  clear hb1 HFE U0 U1 hul hs0
  cases q with
  | false =>
    go_wp2_with fail
    go_ret
    exact ⟨rfl, HB1.out⟩
  | true =>
    have U0 := BU2.out.cell 0 rfl
    have U1 := BU2.out.cell 1 rfl
    have hul := BU2.out.lt
    have HSH := Lib.hid (Live.short_of_few HQF.out (by decide))
    have hs1 := HB1.out.size
    have HAF := Lib.hid (lafter_any u _ n B w1 (HV.out.kept (HB1.out.mono hB)) (by omega) HSH.out)
    obtain ⟨E, hE⟩ : ∃ E, Live.wrongE u n = E := ⟨_, rfl⟩
    rw [hE] at HAF
    by_cases hE0 : E = 0
    · subst hE0
      obtain ⟨hok, i, p, rfl, hpi⟩ := Live.wrongE_zero hE
      have HOKU := Lib.hid (Live.unit_ok hok HSH.out hpi)
      have hin : i < np := by rw [HNP.out]; exact (List.getElem?_eq_some_iff.1 hpi).1
      have HLL := Lib.hid (Live.afterL_len hE hpi)
      have HLG := Lib.hid (fun k (hk : k < p.code.length) => Live.afterL_get hE hpi hk)
      have HPI := Lib.hid hpi
      have hpsh := HSH.out p (List.mem_of_getElem? hpi)
      clear hE hok hpi
      obtain ⟨LL, hLL⟩ : ∃ LL, Live.afterL u (i : Int) = LL := ⟨_, rfl⟩
      rw [hLL] at HAF HLL HLG
      clear hLL
      have fi0 : decide ((i : Int) < 0) = false := decide_eq_false (by omega)
      have fi1 : decide (np ≤ i) = false := decide_eq_false (by omega)
      go_wp2_with fail
      refine HAF.out.mono ?_
      rintro e w2 ⟨sv, rfl, hsv, hb2⟩
      obtain ⟨osv, lsv, csv, rfl⟩ := hsv.form
      have HSV := Lib.hid hsv
      have HB2 := Lib.hid (Below.next HB1.out hb2)
      have BU3 := Lib.hid (BU2.out.keep hb2)
      have HLS := Lib.hid hsv.lens.1
      have hcapv := hsv.lens.2
      clear hsv hb2 HAF U0 U1 hul hs1
      have U1 := BU3.out.cell 1 rfl
      have hul := BU3.out.lt
      have hs2 := HB2.out.size
      have hbw : Below B w w2 := HB2.out.mono hB
      obtain ⟨b1, off1, cs, ho1, hbB, hcl, hcell, hpr⟩ := HP.out.at hbw HPI.out
      subst ho1
      match cs, hcl with
      | [d0, d1, d2, d3, d4], _ =>
        have e0 := hcell 0 _ rfl
        have e1 := hcell 1 _ rfl
        have e2 := hcell 2 _ rfl
        have e3 := hcell 3 _ rfl
        have e4 := hcell 4 _ rfl
        rw [Nat.add_zero] at e0
        obtain ⟨args, rest, regs, code, alive⟩ := p
        obtain ⟨sl, al, he, _, _, hsl, hal⟩ := hpr
        obtain ⟨oc, m, cc, rfl⟩ := hsl.form
        obtain ⟨oal, lal, cal, rfl⟩ := hal.form
        simp only [List.cons.injEq, and_true] at he
        obtain ⟨rfl, rfl, rfl, rfl, rfl⟩ := he
        dsimp only at hsl hpsh
        have HC := Lib.hid hsl
        have HM := Lib.hid hsl.lens.1
        have hmcap := hsl.lens.2
        have hm1 : m ≤ 1000 := by rw [hsl.lens.1]; exact hpsh.1
        have HPS := Lib.hid hpsh.2
        have hlsv : lsv = m := by rw [HLS.out, HLL.out, HM.out]
        subst hlsv
        have hbl := cell_lt e0
        have BX := Lib.hid (BoxL.new (W := w2) rfl 31 [.int .i64 args, .bool rest, .int .i64 regs, .slice oc lsv cc, .slice oal lal cal])
        clear hcell hcl hsl hal hpsh
        go_upto_region 10 with fail
        obtain ⟨W, hW⟩ : ∃ W, w2.alloc (.cells #[.int .i64 args, .bool rest, .int .i64 regs, .slice oc lsv cc, .slice oal lal cal] 31) = W := ⟨_, rfl⟩
        have HBX := Lib.hid (show BoxL W w2.heap.size 31 [.int .i64 args, .bool rest, .int .i64 regs, .slice oc lsv cc, .slice oal lal cal] from by rw [← hW]; exact BX.out)
        have HW2 := Lib.hid (show Below w2.heap.size w2 W from by rw [← hW]; exact Below.one w2 _)
        rw [hW]
        have HWR := Lib.hid (Below.refl W.heap.size W)
        clear hW BX e0 e1 e2 e3 e4 U1
        go_wp2_with fail
        go_loopg [9] lsv (fun G i wr => ∃ k : Nat, G = lsv - k ∧ k ≤ lsv ∧ i = .int .i64 k ∧ Hid (Below W.heap.size W wr))
        case atStart => exact ⟨0, rfl, by omega, rfl, HWR⟩
        case round =>
          obtain ⟨k, rfl, hk, rfl, HW⟩ := hrel
          clear HWR
          have r3 := (HBX.out.keep HW.out).cell 3 rfl
          have r0 := (HBX.out.keep HW.out).lt
          have HW2W := Lib.hid (Below.next HW2.out HW.out)
          by_cases hkm : k < lsv
          · obtain ⟨x, hx⟩ : ∃ x, code[k]? = some x := ⟨_, List.getElem?_eq_getElem (by rw [← HM.out]; exact hkm)⟩
            have hbw : Below B w wr := (HB2.out.mono hB).trans (HW2W.out.mono (by have := HB2.out.size; omega))
            obtain ⟨b6, off6, cs6, ho6, hb6B, hcl6, hcell, hins⟩ := HC.out.at hbw hx
            have HX := Lib.hid hx
            have hxl := HPS.out x (List.mem_of_getElem? hx)
            obtain ⟨R, hR, hR2, hco⟩ := HOKU.out
            have hop := hco.1 x (List.mem_of_getElem? hx)
            match cs6, hcl6 with
            | [t0, t1, t2, t3, t4], _ =>
              have e0 := hcell 0 _ rfl
              have e1 := hcell 1 _ rfl
              have e2 := hcell 2 _ rfl
              have e3 := hcell 3 _ rfl
              have e4 := hcell 4 _ rfl
              rw [Nat.add_zero] at e0
              have HINS := Lib.hid hins
              obtain ⟨op, d, xa, xb, l⟩ := x
              obtain ⟨sl, he, _, _, _, _, hsl⟩ := hins
              obtain ⟨o4, l4, c4', rfl⟩ := hsl.form
              simp only [List.cons.injEq, and_true] at he
              obtain ⟨rfl, rfl, rfl, rfl, rfl⟩ := he
              dsimp only at hop hxl
              have hbl6 := cell_lt e0
              have HG1 := Lib.hid (HLG.out k (by show k < code.length; rw [← HM.out]; exact hkm))
              have HAE := Lib.hid (Live.after_end (R := R) hx)
              have HAH := Lib.hid (fun (k' : Nat) (hk : k = k' + 1) y (hy : code[k']? = some y) => Live.after_ahead (R := R) (k := k') (by rw [← hk]; exact hx) hy)
              have HLG2 := Lib.hid (fun k' (hk' : k' < lsv) => HLG.out k' (by show k' < code.length; rw [← HM.out]; exact hk'))
              rw [hR, Int.toNat_natCast] at HG1
              have HRE := Lib.hid hR
              have HCO2 := Lib.hid hco
              clear hcell hsl hx hR hco hcl6
              subst ho6
              by_cases h19 : op < 19
              · have f19 : decide (op < 19) = true := decide_eq_true h19
                go_wp2_with fail
                go_roundg (lsv - (k + 1))
                case measure => omega
                case rel => exact ⟨k + 1, rfl, by omega, by go_num, HW⟩
              · have f19 : decide (op < 19) = false := decide_eq_false h19
                have hAE := HAE.out (by dsimp only; omega)
                rw [hAE] at HG1
                obtain ⟨b7, off7, cs7, ho7, hb7B, hcl7, hcell7, sl7, rfl, hsl7⟩ := HSV.out.at (HW2W.out) HG1.out
                subst ho7
                have s0 := hcell7 0 _ rfl
                rw [Nat.mul_one, Nat.add_zero] at s0
                obtain ⟨o7, l7, c7, rfl⟩ := hsl7.form
                obtain rfl : l7 = 0 := hsl7.lens.1
                have hb7l := cell_lt s0
                clear hcell7 hcl7 hsl7
                cases k with
                | zero =>
                  simp only [Nat.zero_mul, Nat.add_zero] at e0 s0
                  go_wp2_with fail
                  go_roundg (lsv - 1)
                  case measure => omega
                  case rel => exact ⟨1, rfl, by omega, by go_num, HW⟩
                | succ k' =>
                  obtain ⟨y, hy⟩ : ∃ y, code[k']? = some y := ⟨_, List.getElem?_eq_getElem (by rw [← HM.out]; omega)⟩
                  obtain ⟨b8, off8, cs8, ho8, hb8B, hcl8, hcell8, hins8⟩ := HC.out.at hbw hy
                  simp only [Option.some.injEq, Addr.mk.injEq, and_true] at ho8
                  obtain ⟨rfl, rfl⟩ := ho8
                  have hlk0 := HLG2.out k' (by omega)
                  rw [HRE.out, Int.toNat_natCast] at hlk0
                  obtain ⟨LQ, hLQ⟩ : ∃ LQ, Live.after code R k' = LQ := ⟨_, rfl⟩
                  have HINA := Lib.hid (fun hh => HAH.out k' rfl y hy (by dsimp only; omega) hh)
                  rw [hLQ] at hlk0 HINA
                  have hLQ2 : LQ.length ≤ 20000 := by rw [← hLQ]; exact Nat.le_trans (Live.after_len _ _ _) hR2
                  obtain ⟨b9, off9, cs9, ho9, hb9B, hcl9, hcell9, sl9, rfl, hsl9⟩ := HSV.out.at (HW2W.out) hlk0
                  simp only [Option.some.injEq, Addr.mk.injEq, and_true] at ho9
                  obtain ⟨rfl, rfl⟩ := ho9
                  have cp := hcell9 0 _ rfl
                  rw [Nat.mul_one, Nat.add_zero] at cp
                  obtain ⟨oq, lenq, cq, rfl⟩ := hsl9.form
                  have HLA := Lib.hid hsl9.lens.1
                  have hlenq : lenq ≤ 20000 := by rw [hsl9.lens.1]; exact hLQ2
                  have hsq : SlC wr wr.heap.size 1 IntR LQ (.slice oq lenq cq) := (hsl9.kept HW2W.out fun _ _ _ h => h).wider HW2W.out.size
                  match cs8, hcl8 with
                  | [y0, y1, y2, y3, y4], _ =>
                    have p0 := hcell8 0 _ rfl
                    rw [Nat.add_zero] at p0
                    obtain ⟨yop, yd, ya, yb, yl⟩ := y
                    obtain ⟨sl, he, _⟩ := hins8
                    simp only [List.cons.injEq, and_true] at he
                    obtain ⟨rfl, rfl, rfl, rfl, rfl⟩ := he
                    dsimp only at HINA
                    clear hcell8 hcell9 hcl9 hsl9 hy hLQ hLQ2
                    by_cases h15 : 15 ≤ yop
                    · have f15 : decide (15 ≤ yop) = true := decide_eq_true h15
                      by_cases h17 : yop = 17
                      · subst h17
                        have HIN := Lib.hid (HINA.out (by omega))
                        have HNM := Lib.hid (named_any ⟨op, d, xa, xb, l⟩ _ _ _ _ _ B wr (HINS.out.kept hbw) (by have := hbw.size; omega) (Nat.le_trans hxl (by decide)) hop.1 hop.2)
                        go_wp2_with fail
                        refine HNM.out.mono ?_
                        rintro e w3 ⟨sn, rfl, hsn, hb3⟩
                        obtain ⟨on, ln, cn, rfl⟩ := hsn.form
                        have HSN := Lib.hid hsn
                        have HW3 := Lib.hid (Below.next HW.out hb3)
                        have hxs3 := hb3.size
                        have HBX3 := Lib.hid (Below.refl w3.heap.size w3)
                        have hcb := cell_lt (keepC hb3 cp)
                        have CP := Lib.hid (keepC hb3 cp)
                        have HSQ := Lib.hid (hsq.kept hb3 fun _ _ _ h => h)
                        have HWS := Lib.hid hb3.size
                        have hlql := HSQ.out.lens.2
                        clear hsn hb3 HNM e0 e1 e2 e3 e4 r0 r3 cp hsq hlk0 p0 s0
                        go_wp2_with fail
                        go_loopg [12] lenq (fun G i wq => ∃ j : Nat, G = lenq - j ∧ j ≤ lenq ∧ i = .int .i64 j ∧ Hid (Below w3.heap.size w3 wq))
                        case atStart => exact ⟨0, rfl, by omega, rfl, HBX3⟩
                        case round =>
                          obtain ⟨j, rfl, hj, rfl, HQ⟩ := hrel
                          clear HBX3
                          have c1 := keepC HQ.out CP.out
                          by_cases hjl : j < lenq
                          · obtain ⟨y, hy⟩ : ∃ y, LQ[j]? = some y := ⟨_, List.getElem?_eq_getElem (by rw [← HLA.out]; exact hjl)⟩
                            have hsw : SlC wr w3.heap.size 1 IntR LQ (.slice oq lenq cq) := (HSQ.out.kept ((HQ.out).mono HWS.out) fun _ _ _ h => h).wider HWS.out
                            obtain ⟨b5, off5, es, ho5, hb5, hel, hecell, hei⟩ := hsw.at (Below.refl _ _) hy
                            subst ho5
                            have g0 := hecell 0 (.int .i64 y) (by rw [hei.1]; rfl)
                            rw [Nat.mul_one, Nat.add_zero] at g0
                            have HHAS := Lib.hid (has16_any (Unt.named ⟨op, d, xa, xb, l⟩) _ y w3.heap.size wr (HSN.out.kept HQ.out fun _ _ _ h => h) true (by rw [List.contains_iff_mem]; exact HIN.out y (List.mem_of_getElem? hy)) (by have := named_len ⟨op, d, xa, xb, l⟩; dsimp only at this hxl; omega))
                            have hb5l := cell_lt g0
                            clear hecell hei hy hsw
                            go_wp2_with fail
                            refine HHAS.out.mono ?_
                            rintro e w4 ⟨rfl, rfl⟩
                            go_wp2_with fail
                            go_roundg (lenq - (j + 1))
                            case measure => omega
                            case rel => exact ⟨j + 1, rfl, by omega, by go_num, HQ⟩
                          · obtain rfl : j = lenq := by omega
                            have HW4 := Lib.hid (HW3.out.trans (HQ.out.mono HW3.out.size))
                            go_wp2_with fail
                            go_roundg (lsv - (k' + 1 + 1))
                            case measure => omega
                            case rel => exact ⟨k' + 1 + 1, rfl, by omega, by go_num, HW4⟩
                      · have f17 : (yop != 17) = true := by simpa using h17
                        by_cases h18 : yop = 18
                        · subst h18
                          have HIN := Lib.hid (HINA.out (by omega))
                          have HNM := Lib.hid (named_any ⟨op, d, xa, xb, l⟩ _ _ _ _ _ B wr (HINS.out.kept hbw) (by have := hbw.size; omega) (Nat.le_trans hxl (by decide)) hop.1 hop.2)
                          go_wp2_with fail
                          refine HNM.out.mono ?_
                          rintro e w3 ⟨sn, rfl, hsn, hb3⟩
                          obtain ⟨on, ln, cn, rfl⟩ := hsn.form
                          have HSN := Lib.hid hsn
                          have HW3 := Lib.hid (Below.next HW.out hb3)
                          have hxs3 := hb3.size
                          have HBX3 := Lib.hid (Below.refl w3.heap.size w3)
                          have hcb := cell_lt (keepC hb3 cp)
                          have CP := Lib.hid (keepC hb3 cp)
                          have HSQ := Lib.hid (hsq.kept hb3 fun _ _ _ h => h)
                          have HWS := Lib.hid hb3.size
                          have hlql := HSQ.out.lens.2
                          clear hsn hb3 HNM e0 e1 e2 e3 e4 r0 r3 cp hsq hlk0 p0 s0
                          go_wp2_with fail
                          go_loopg [12] lenq (fun G i wq => ∃ j : Nat, G = lenq - j ∧ j ≤ lenq ∧ i = .int .i64 j ∧ Hid (Below w3.heap.size w3 wq))
                          case atStart => exact ⟨0, rfl, by omega, rfl, HBX3⟩
                          case round =>
                            obtain ⟨j, rfl, hj, rfl, HQ⟩ := hrel
                            clear HBX3
                            have c1 := keepC HQ.out CP.out
                            by_cases hjl : j < lenq
                            · obtain ⟨y, hy⟩ : ∃ y, LQ[j]? = some y := ⟨_, List.getElem?_eq_getElem (by rw [← HLA.out]; exact hjl)⟩
                              have hsw : SlC wr w3.heap.size 1 IntR LQ (.slice oq lenq cq) := (HSQ.out.kept ((HQ.out).mono HWS.out) fun _ _ _ h => h).wider HWS.out
                              obtain ⟨b5, off5, es, ho5, hb5, hel, hecell, hei⟩ := hsw.at (Below.refl _ _) hy
                              subst ho5
                              have g0 := hecell 0 (.int .i64 y) (by rw [hei.1]; rfl)
                              rw [Nat.mul_one, Nat.add_zero] at g0
                              have HHAS := Lib.hid (has16_any (Unt.named ⟨op, d, xa, xb, l⟩) _ y w3.heap.size wr (HSN.out.kept HQ.out fun _ _ _ h => h) true (by rw [List.contains_iff_mem]; exact HIN.out y (List.mem_of_getElem? hy)) (by have := named_len ⟨op, d, xa, xb, l⟩; dsimp only at this hxl; omega))
                              have hb5l := cell_lt g0
                              clear hecell hei hy hsw
                              go_wp2_with fail
                              refine HHAS.out.mono ?_
                              rintro e w4 ⟨rfl, rfl⟩
                              go_wp2_with fail
                              go_roundg (lenq - (j + 1))
                              case measure => omega
                              case rel => exact ⟨j + 1, rfl, by omega, by go_num, HQ⟩
                            · obtain rfl : j = lenq := by omega
                              have HW4 := Lib.hid (HW3.out.trans (HQ.out.mono HW3.out.size))
                              go_wp2_with fail
                              go_roundg (lsv - (k' + 1 + 1))
                              case measure => omega
                              case rel => exact ⟨k' + 1 + 1, rfl, by omega, by go_num, HW4⟩
                        · have f18 : (yop != 18) = true := by simpa using h18
                          go_wp2_with fail
                          go_roundg (lsv - (k' + 1 + 1))
                          case measure => omega
                          case rel => exact ⟨k' + 1 + 1, rfl, by omega, by go_num, HW⟩
                    · have f15 : decide (15 ≤ yop) = false := decide_eq_false h15
                      have HIN := Lib.hid (HINA.out (by omega))
                      have HNM := Lib.hid (named_any ⟨op, d, xa, xb, l⟩ _ _ _ _ _ B wr (HINS.out.kept hbw) (by have := hbw.size; omega) (Nat.le_trans hxl (by decide)) hop.1 hop.2)
                      go_wp2_with fail
                      refine HNM.out.mono ?_
                      rintro e w3 ⟨sn, rfl, hsn, hb3⟩
                      obtain ⟨on, ln, cn, rfl⟩ := hsn.form
                      have HSN := Lib.hid hsn
                      have HW3 := Lib.hid (Below.next HW.out hb3)
                      have hxs3 := hb3.size
                      have HBX3 := Lib.hid (Below.refl w3.heap.size w3)
                      have hcb := cell_lt (keepC hb3 cp)
                      have CP := Lib.hid (keepC hb3 cp)
                      have HSQ := Lib.hid (hsq.kept hb3 fun _ _ _ h => h)
                      have HWS := Lib.hid hb3.size
                      have hlql := HSQ.out.lens.2
                      clear hsn hb3 HNM e0 e1 e2 e3 e4 r0 r3 cp hsq hlk0 p0 s0
                      go_wp2_with fail
                      go_loopg [12] lenq (fun G i wq => ∃ j : Nat, G = lenq - j ∧ j ≤ lenq ∧ i = .int .i64 j ∧ Hid (Below w3.heap.size w3 wq))
                      case atStart => exact ⟨0, rfl, by omega, rfl, HBX3⟩
                      case round =>
                        obtain ⟨j, rfl, hj, rfl, HQ⟩ := hrel
                        clear HBX3
                        have c1 := keepC HQ.out CP.out
                        by_cases hjl : j < lenq
                        · obtain ⟨y, hy⟩ : ∃ y, LQ[j]? = some y := ⟨_, List.getElem?_eq_getElem (by rw [← HLA.out]; exact hjl)⟩
                          have hsw : SlC wr w3.heap.size 1 IntR LQ (.slice oq lenq cq) := (HSQ.out.kept ((HQ.out).mono HWS.out) fun _ _ _ h => h).wider HWS.out
                          obtain ⟨b5, off5, es, ho5, hb5, hel, hecell, hei⟩ := hsw.at (Below.refl _ _) hy
                          subst ho5
                          have g0 := hecell 0 (.int .i64 y) (by rw [hei.1]; rfl)
                          rw [Nat.mul_one, Nat.add_zero] at g0
                          have HHAS := Lib.hid (has16_any (Unt.named ⟨op, d, xa, xb, l⟩) _ y w3.heap.size wr (HSN.out.kept HQ.out fun _ _ _ h => h) true (by rw [List.contains_iff_mem]; exact HIN.out y (List.mem_of_getElem? hy)) (by have := named_len ⟨op, d, xa, xb, l⟩; dsimp only at this hxl; omega))
                          have hb5l := cell_lt g0
                          clear hecell hei hy hsw
                          go_wp2_with fail
                          refine HHAS.out.mono ?_
                          rintro e w4 ⟨rfl, rfl⟩
                          go_wp2_with fail
                          go_roundg (lenq - (j + 1))
                          case measure => omega
                          case rel => exact ⟨j + 1, rfl, by omega, by go_num, HQ⟩
                        · obtain rfl : j = lenq := by omega
                          have HW4 := Lib.hid (HW3.out.trans (HQ.out.mono HW3.out.size))
                          go_wp2_with fail
                          go_roundg (lsv - (k' + 1 + 1))
                          case measure => omega
                          case rel => exact ⟨k' + 1 + 1, rfl, by omega, by go_num, HW4⟩
          · obtain rfl : k = lsv := by omega
            have HB5 := Lib.hid (show Below w.heap.size w wr from HB2.out.trans (HW2W.out.mono HB2.out.size))
            go_wp2_with fail
            go_ret
            exact ⟨rfl, HB5.out⟩
    · have f0 : (E != 0) = true := by simpa using hE0
      clear hE
      go_wp2_with fail
      refine HAF.out.mono ?_
      rintro e w2 ⟨sv, rfl, _, hb2⟩
      have HB2 := Lib.hid (Below.next HB1.out hb2)
      clear hb2 HAF
      go_wp2_with fail
      go_ret
      exact ⟨rfl, HB2.out⟩
end Go.Proofs.YtdlhocghiaghfaaGreatDoor
